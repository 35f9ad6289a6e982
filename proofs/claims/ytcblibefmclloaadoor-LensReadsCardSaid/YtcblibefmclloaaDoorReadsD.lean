import Derived.Test.YtcblibefmclloaaDoorReadsC
import Derived.Test.YtcblibefmclloaaDoorReadsA
import Derived.Lib.AppendZerosOnto
import Derived.Laws.AppendOwnNone
import Derived.OneCell
import Derived.OwnWalk
import Derived.Deep.MidRow
import Derived.Test.YtcblibefmclloaaDoorReadsB
import Derived.RegionTactic
import Derived.BigQuiet
import Derived.WalkMore
import Derived.BigRegion
/- What a decoder holds: plain numbers. -/
set_option linter.unusedVariables false
set_option linter.unusedSimpArgs false
namespace Go.Proofs.YtcblibefmclloaaDoor
/-- How many of the first have this length. -/
def cntN (l : List Int) (n i : Nat) : Int := nth (lenCnt (l.take i)) n
theorem cntN_zero (l : List Int) (n : Nat) (hn : n < 16) : cntN l n 0 = 0 := by
  unfold cntN; rw [List.take_zero]; unfold lenCnt; rw [cntF_nth _ _ _ hn]; simp
theorem cntN_all (l : List Int) (n : Nat) : cntN l n l.length = nth (lenCnt l) n := by unfold cntN; rw [List.take_length]
theorem cntN_skip (l : List Int) (n i : Nat) (hn : n < 16) (hi : i < l.length) (h : nth l i ≠ n) : cntN l n (i + 1) = cntN l n i := by
  have := posF_skip l n i hn hi h
  unfold posF at this
  unfold cntN; omega
theorem cntN_step (l : List Int) (n i : Nat) (hn : n < 16) (h1 : 1 ≤ n) (hi : i < l.length) (h : nth l i = n) : cntN l n (i + 1) = cntN l n i + 1 := by
  have := posF_step l n i hn h1 hi h
  unfold posF at this
  unfold cntN; omega
theorem cntN_nn (l : List Int) (n i : Nat) (hn : n < 16) : 0 ≤ cntN l n i := (lenCnt_bd (l.take i) n hn).1
/-- The symbols of a length among the first. -/
def symsOf (l : List Int) (n : Nat) : Nat → List Int
  | 0 => []
  | i + 1 => symsOf l n i ++ (if nth l i = n then [(i : Int)] else [])
theorem symsOf_skip (l : List Int) (n i : Nat) (h : nth l i ≠ n) : symsOf l n (i + 1) = symsOf l n i := by simp [symsOf, h]
theorem symsOf_step (l : List Int) (n i : Nat) (h : nth l i = n) : symsOf l n (i + 1) = symsOf l n i ++ [(i : Int)] := by simp [symsOf, h]
theorem symsOf_len (l : List Int) (n : Nat) : ∀ i, (symsOf l n i).length ≤ i
  | 0 => by simp [symsOf]
  | i + 1 => by
    have := symsOf_len l n i
    unfold symsOf
    rw [List.length_append]
    split <;> simp <;> omega
theorem symsOf_cnt (l : List Int) (n : Nat) (hn : n < 16) (h1 : 1 ≤ n) : ∀ i, i ≤ l.length → ((symsOf l n i).length : Int) = cntN l n i
  | 0, _ => by rw [cntN_zero l n hn]; rfl
  | i + 1, hi => by
    have := symsOf_cnt l n hn h1 i (by omega)
    by_cases h : nth l i = n
    · rw [symsOf_step l n i h, cntN_step l n i hn h1 (by omega) h, List.length_append]; simp; omega
    · rw [symsOf_skip l n i h, cntN_skip l n i hn (by omega) h]; exact this
theorem nth_append_left (xs ys : List Int) (k : Nat) (h : k < xs.length) : nth (xs ++ ys) k = nth xs k := by simp [nth, List.getD, List.getElem?_append_left h]
theorem nth_append_right (xs ys : List Int) (k : Nat) : nth (xs ++ ys) (xs.length + k) = nth ys k := by simp [nth, List.getD, List.getElem?_append_right]
/-- Which symbol stands at a place. -/
theorem symsOf_at (l : List Int) (n : Nat) (hn : n < 16) (h1 : 1 ≤ n) : ∀ i k, i ≤ l.length → k < (symsOf l n i).length → ∃ j, j < i ∧ nth (symsOf l n i) k = (j : Int) ∧ nth l j = n ∧ cntN l n j = k
  | 0, k, _, hk => by simp [symsOf] at hk
  | i + 1, k, hi, hk => by
    by_cases h : nth l i = n
    · rw [symsOf_step l n i h] at hk ⊢
      by_cases e : k < (symsOf l n i).length
      · obtain ⟨j, a, b, c, d⟩ := symsOf_at l n hn h1 i k (by omega) e
        exact ⟨j, by omega, by rw [nth_append_left _ _ _ e]; exact b, c, d⟩
      · have hk' : k = (symsOf l n i).length := by rw [List.length_append] at hk; simp at hk; omega
        refine ⟨i, by omega, ?_, h, ?_⟩
        · have := nth_append_right (symsOf l n i) [(i : Int)] 0
          rw [Nat.add_zero, ← hk'] at this
          rw [this]; rfl
        · rw [hk']; exact (symsOf_cnt l n hn h1 i (by omega)).symm
    · rw [symsOf_skip l n i h] at hk ⊢
      obtain ⟨j, a, b, c, d⟩ := symsOf_at l n hn h1 i k (by omega) hk
      exact ⟨j, by omega, b, c, d⟩
/-- All symbols of the lengths before. -/
def symsB (l : List Int) : Nat → List Int
  | 0 => []
  | n + 1 => symsB l n ++ (if n = 0 then [] else symsOf l n l.length)
theorem symsB_one (l : List Int) : symsB l 1 = [] := by simp [symsB]
theorem symsB_next (l : List Int) (n : Nat) (h : 1 ≤ n) : symsB l (n + 1) = symsB l n ++ symsOf l n l.length := by
  rw [symsB, if_neg (by omega)]
theorem symsB_len (l : List Int) : ∀ n, (symsB l n).length ≤ n * l.length
  | 0 => by simp [symsB]
  | n + 1 => by
    have h1 := symsB_len l n
    have h2 := symsOf_len l n l.length
    rw [symsB, List.length_append, Nat.add_mul]
    split <;> simp <;> omega
theorem symsB_split (l : List Int) (n : Nat) (h : 1 ≤ n) : ∀ d, ∃ r, symsB l (n + 1 + d) = symsB l n ++ (symsOf l n l.length ++ r)
  | 0 => ⟨[], by rw [Nat.add_zero, symsB_next l n h, List.append_nil]⟩
  | d + 1 => by
    obtain ⟨r, hr⟩ := symsB_split l n h d
    exact ⟨r ++ symsOf l (n + 1 + d) l.length, by rw [show n + 1 + (d + 1) = (n + 1 + d) + 1 by omega, symsB_next l _ (by omega), hr]; simp only [List.append_assoc]⟩
/-- The symbol that a code says. -/
theorem symsB_at (l : List Int) (n : Nat) (hn : n < 16) (h1 : 1 ≤ n) (k : Nat) (hk : (k : Int) < nth (lenCnt l) n) :
    (symsB l n).length + k < (symsB l 16).length ∧ ∃ j, j < l.length ∧ nth (symsB l 16) ((symsB l n).length + k) = (j : Int) ∧ nth l j = n ∧ codeI l j = lowF (lenCnt l) n + k := by
  have hc := symsOf_cnt l n hn h1 l.length (Nat.le_refl _)
  rw [cntN_all] at hc
  obtain ⟨r, hr⟩ := symsB_split l n h1 (15 - n)
  rw [show n + 1 + (15 - n) = 16 by omega] at hr
  have hk2 : k < (symsOf l n l.length).length := by omega
  obtain ⟨j, a, b, c, d⟩ := symsOf_at l n hn h1 l.length k (Nat.le_refl _) hk2
  refine ⟨by rw [hr]; simp; omega, j, a, ?_, c, ?_⟩
  · rw [hr, nth_append_right, nth_append_left _ _ _ hk2]; exact b
  · rw [posF_code l n j c]; unfold posF; unfold cntN at d; rw [d]
/-- Where each length's symbols begin. -/
def atL (l : List Int) (n : Nat) : List Int := (List.range 16).map fun m => if 1 ≤ m ∧ m < n then ((symsB l m).length : Int) else 0
theorem atL_len (l : List Int) (n : Nat) : (atL l n).length = 16 := by simp [atL]
theorem atL_one (l : List Int) : atL l 1 = List.replicate 16 0 := by
  refine List.ext_getElem (by simp [atL]) fun j h1 h2 => ?_
  simp only [atL, List.getElem_map, List.getElem_range, List.getElem_replicate]
  rw [if_neg (by omega)]
theorem atL_next (l : List Int) (n : Nat) (h1 : 1 ≤ n) (hn : n < 16) : atL l (n + 1) = (atL l n).set n ((symsB l n).length : Int) := by
  refine List.ext_getElem (by simp [atL]) fun j h1 h2 => ?_
  rw [List.getElem_set]
  simp only [atL, List.getElem_map, List.getElem_range]
  by_cases e : n = j
  · subst e; rw [if_pos rfl, if_pos (by omega)]
  · rw [if_neg e]
    by_cases e2 : 1 ≤ j ∧ j < n
    · rw [if_pos (by omega), if_pos e2]
    · rw [if_neg (by omega), if_neg e2]
theorem atL_at (l : List Int) (n : Nat) (h1 : 1 ≤ n) (hn : n < 16) : nth (atL l 16) n = ((symsB l n).length : Int) := by
  unfold atL; rw [show nth ((List.range 16).map fun m => if 1 ≤ m ∧ m < 16 then ((symsB l m).length : Int) else 0) n = (fun m => if 1 ≤ m ∧ m < 16 then ((symsB l m).length : Int) else 0) n by simp [nth, List.getD, hn]]
  simp only []
  rw [if_pos ⟨h1, hn⟩]
/-- The longest length before. -/
def longN (l : List Int) : Nat → Nat
  | 0 => 0
  | n + 1 => if 1 ≤ n ∧ 0 < nth (lenCnt l) n then n else longN l n
def longA (l : List Int) (n i : Nat) : Nat := if 0 < cntN l n i then n else longN l n
theorem longN_one (l : List Int) : longN l 1 = 0 := by simp [longN]
theorem longA_zero (l : List Int) (n : Nat) (hn : n < 16) : longA l n 0 = longN l n := by unfold longA; rw [cntN_zero l n hn, if_neg (by omega)]
theorem longA_all (l : List Int) (n : Nat) (h1 : 1 ≤ n) : longA l n l.length = longN l (n + 1) := by
  unfold longA
  rw [cntN_all, longN]
  by_cases h : 0 < nth (lenCnt l) n
  · rw [if_pos h, if_pos ⟨h1, h⟩]
  · rw [if_neg h, if_neg (fun h' => h h'.2)]
theorem longA_skip (l : List Int) (n i : Nat) (hn : n < 16) (hi : i < l.length) (h : nth l i ≠ n) : longA l n (i + 1) = longA l n i := by
  unfold longA; rw [cntN_skip l n i hn hi h]
theorem longA_step (l : List Int) (n i : Nat) (hn : n < 16) (h1 : 1 ≤ n) (hi : i < l.length) (h : nth l i = n) : longA l n (i + 1) = n := by
  unfold longA; rw [cntN_step l n i hn h1 hi h, if_pos (by have := cntN_nn l n i hn; omega)]
theorem longN_le (l : List Int) : ∀ n, longN l n < n ∨ n = 0
  | 0 => .inr rfl
  | n + 1 => by
    left
    rw [longN]
    split
    · omega
    · have := longN_le l n
      rcases this with h | h
      · omega
      · subst h; simp [longN]
theorem longN_top (l : List Int) : ∀ n m, longN l n < m → m < n → nth (lenCnt l) m ≤ 0 ∨ m = 0
  | 0, m, _, h => by omega
  | n + 1, m, h1, h2 => by
    rw [longN] at h1
    split at h1
    · omega
    · rename_i h3
      by_cases e : m = n
      · subst e
        by_cases h0 : m = 0
        · exact .inr h0
        · left; omega
      · exact longN_top l n m h1 (by omega)
theorem longN_has (l : List Int) : ∀ n, longN l n = 0 ∨ 0 < nth (lenCnt l) (longN l n)
  | 0 => .inl rfl
  | n + 1 => by
    rw [longN]
    split
    · rename_i h; exact .inr h.2
    · exact longN_has l n
end Go.Proofs.YtcblibefmclloaaDoor

/- slices.Grow of no slice, appends of whole numbers. -/
set_option linter.unusedVariables false
set_option linter.unusedSimpArgs false
namespace Go.Proofs.YtcblibefmclloaaDoor
open Go.RowKit
theorem ints_one2 (k : IntKind) (xs : List Int) : ∀ v ∈ ints k xs, v.oneCell' = true := by
  intro u hu; simp only [ints, List.mem_map] at hu; obtain ⟨x, _, rfl⟩ := hu; rfl
theorem own_lo {w : World} {base : Nat} {e : TypeId} {size n : Nat} {v : Value} {xs : List Value} (h : w.ownsRow base e size v n xs) (k : Nat) (hk : v.ownBlock = some k) : base ≤ k := by
  rcases h.2 with ⟨rfl, _⟩ | ⟨g, cap, cur, rfl, hb, _⟩
  · simp [Value.ownBlock] at hk
  · have : g = k := by simpa [Value.ownBlock] using hk
    omega
theorem own_hi {w : World} {base : Nat} {e : TypeId} {size n : Nat} {v : Value} {xs : List Value} (h : w.ownsRow base e size v n xs) (k : Nat) (hk : v.ownBlock = some k) : k < w.heap.size := by
  rcases h.2 with ⟨rfl, _⟩ | ⟨g, cap, cur, rfl, hb, hh, _⟩
  · simp [Value.ownBlock] at hk
  · have : g = k := by simpa [Value.ownBlock] using hk
    subst this
    exact (Array.getElem?_eq_some_iff.1 hh).1
/-- 's = append(s, ys...)' of numbers, whatever slice the source is. -/
theorem app_intsG {ops : Array Oper} {rest : List Oper} {o : Oper} {a : Act} {Q : Exit → Act → World → Prop} {w : World} (hgd : o.guard = none) (s x : Operand)
    (ho : o.op = .call { callee := .builtin .append, args := #[s, x], argTypes := #[22, 22] })
    (base : Nat) (v : Value) (n : Nat) (xs : List Int) (hs : a.eval s = v) (hown : w.ownsRow base 3 1 v n (ints .i64 xs))
    (A : Option Addr) (m c : Nat) (ys : List Int) (hx : a.eval x = .slice A m c) (hy : RI .i64 w A m ys) (hnil : A = none → m = 0 ∧ c = 0) (hpl : ∀ ad, A = some ad → ∃ b o, ad = ⟨b, o, none⟩)
    (hn : n + m ≤ 8000000000) (hbase : base ≤ w.heap.size)
    (h : ∀ v' w', w'.ownsRow base 3 1 v' (n + m) (ints .i64 (xs ++ ys)) → w.grownBy w' v.ownBlock → wpList Tryd.prog ops Q rest (a.put o.dst v') w') : wpList Tryd.prog ops Q (o :: rest) a w := by
  obtain ⟨i0, hi, hz0, hz1, hz2⟩ := info_parts info_int
  cases A with
  | none =>
    obtain ⟨rfl, rfl⟩ := hnil rfl
    obtain rfl : ys = [] := List.eq_nil_of_length_eq_zero hy.len
    refine wpList_append_own_none hgd s x 22 ho base 3 i0 1 Tryd.underlying22 hi v n (ints .i64 xs) hs hown hx ?_
    exact h v w (by simpa using hown) ⟨rfl, rfl, rfl, Nat.le_refl _, fun _ _ _ => rfl⟩
  | some ad =>
    obtain ⟨b, of, rfl⟩ := hpl ad rfl
    refine wpList_append_own _ hgd s x 22 ho base 3 i0 (.int .i64 0) 1 8 Tryd.underlying22 hi hz0 hz1 hz2 rfl (by decide) v n (ints .i64 xs) hs hown ⟨b, of, none⟩ m c (ints .i64 ys) hx (by simp [ints, hy.len]) ?_ (ints_one2 _ _) (by unfold maxLen; omega) (by omega) hbase ?_
    · intro j u hu
      have hj : j < m := by have := (List.getElem?_eq_some_iff.1 hu).1; have := hy.len; simp [ints] at *; omega
      rw [add_plain2]
      have hc := hy.cell b of rfl j hj
      rw [hc, ← hu, ints_getElem?]
      simp [nth, List.getD, show j < ys.length by have := hy.len; omega]
    · intro v' w' h2 h3 _
      have e : ints .i64 (xs ++ ys) = ints .i64 xs ++ ints .i64 ys := by simp [ints]
      rw [e] at h
      exact h v' w' h2 h3
theorem grow_run (w : World) (n : Nat) (h0 : 0 < n) (hn : n ≤ 4000000000) : ∃ c w1, (∀ ty, (Builtin.append_ #[22, 3] ty #[.slice none 0 0, .int .i64 n]).run Tryd.prog w = .ok (.slice (some ⟨w.heap.size, 0, none⟩) n c) w1) ∧
    (∀ base, base ≤ w.heap.size → w1.ownsRow base 3 1 (.slice (some ⟨w.heap.size, 0, none⟩) 0 c) 0 []) ∧ n ≤ c ∧ c ≤ 9223372036854775807 ∧ Below w.heap.size w w1 := by
  obtain ⟨i0, hi, hz0, hz1, hz2⟩ := info_parts info_int
  have hr := fun ty => Lib.run_append_grow_zeros w 22 3 ty 3 i0 (.int .i64 0) .i64 .i64 Tryd.underlying22 Tryd.underlying3 hi hz0 none 0 0 [] (run_firstCells_none w.drew i0.size 0 0 0) n h0 (by rw [hz1]; decide) (by omega) (by omega) (by rw [hz2]; omega) (by rw [hz2]; exact growslice_fits (by omega) (by omega))
  simp only [Nat.zero_add] at hr
  have hge := grownCap_ge w n 0 3
  have hcm := grownCap_le_maxLen w n 0 3 (by unfold maxLen; omega)
  refine ⟨_, _, hr, fun base hb => ?_, hge, by unfold maxLen at hcm; exact hcm, ?_⟩
  · refine ⟨rfl, .inr ⟨w.heap.size, _, _, rfl, hb, heap_alloc_new w.drew _, Nat.zero_le _, hcm, ?_, rfl⟩⟩
    simp [size_zeroCells, Value.cells]
    omega
  · exact ((Below.refl _ _).drew).alloc (Nat.le_refl _) _
/-- An append, its run being known. -/
theorem wpList_append_run {ops : Array Oper} {rest : List Oper} {o : Oper} {a : Act} {Q : Exit → Act → World → Prop} {w w1 : World} (hgd : o.guard = none) (s x : Operand) (t ti : TypeId)
    (ho : o.op = .call { callee := .builtin .append, args := #[s, x], argTypes := #[t, ti] }) (u y v : Value) (hs : a.eval s = u) (hx : a.eval x = y)
    (hrun : ∀ ty, (Builtin.append_ #[t, ti] ty #[u, y]).run Tryd.prog w = .ok v w1) (h : wpList Tryd.prog ops Q rest (a.put o.dst v) w1) : wpList Tryd.prog ops Q (o :: rest) a w := by
  refine wpList_plain hgd fun K hK => ?_
  unfold Oper.wp
  simp [execOp, ho, resolve, invoke, builtin, hs, hx, hrun, Result.andThen]
  exact hK _ _ h
set_option maxRecDepth 100000 in
set_option maxHeartbeats 1000000 in
theorem grow_calls' (w : World) (A : Option Addr) (hA : A = none) (n : Nat) (hn : n ≤ 4000000000) :
    Calls Tryd.prog 96 #[.slice A 0 0, .int .i64 n] w fun e w' => ∃ v, e = .returned v ∧ (∀ base, base ≤ w.heap.size → w'.ownsRow base 3 1 v 0 []) ∧ Below w.heap.size w w' := by
  have e0 : decide ((n : Int) < 0) = false := by simp
  have HA := Lib.hid hA
  clear hA
  by_cases h0 : 0 < n
  · obtain ⟨c, w1, hr, ho, hc, hc2, hb⟩ := grow_run w n h0 hn
    have e1 : decide ((0 : Int) < n) = true := by simp; omega
    have HO := Lib.hid ho
    have HB := Lib.hid hb
    have HR := Lib.hid hr
    clear ho hb hr
    go_enter Tryd.func96, Tryd.ntmps96
    go_wp2_with (with_reducible refine wpList_append_run rfl (.tmp 20) (.tmp 21) _ _ rfl (.slice A 0 0) (.int .i64 n) _ rfl rfl (by rw [HA.out]; exact HR.out) ?_)
    go_wp2
    go_ret
    exact ⟨_, rfl, HO.out, HB.out⟩
  · obtain rfl : n = 0 := by omega
    go_enter Tryd.func96, Tryd.ntmps96
    go_wp2
    go_ret
    exact ⟨_, rfl, fun base _ => by rw [HA.out]; exact World.ownsRow_nil _ _ _ _, Below.refl _ _⟩
theorem grow_calls (w : World) (n : Nat) (hn : n ≤ 4000000000) :
    Calls Tryd.prog 96 #[.slice none 0 0, .int .i64 n] w fun e w' => ∃ v, e = .returned v ∧ (∀ base, base ≤ w.heap.size → w'.ownsRow base 3 1 v 0 []) ∧ Below w.heap.size w w' := grow_calls' w none rfl n hn
end Go.Proofs.YtcblibefmclloaaDoor

/- A decoder in memory. -/
set_option linter.unusedVariables false
set_option linter.unusedSimpArgs false
namespace Go.Proofs.YtcblibefmclloaaDoor
open Go.RowKit
def setL (cs : List Value) : Nat → List Value → List Value
  | _, [] => cs
  | o, v :: r => setL (cs.set o v) (o + 1) r
theorem setL_mid : ∀ (vs a old b : List Value), old.length = vs.length → setL (a ++ (old ++ b)) a.length vs = a ++ (vs ++ b)
  | [], a, old, b, h => by
    obtain rfl := List.eq_nil_of_length_eq_zero (by simpa using h)
    rfl
  | v :: r, a, [], b, h => by simp at h
  | v :: r, a, x :: old, b, h => by
    have e : (a ++ (x :: old ++ b)).set a.length v = (a ++ [v]) ++ (old ++ b) := by simp
    rw [setL, e]
    have := setL_mid r (a ++ [v]) old b (by simpa using h)
    rw [show (a ++ [v]).length = a.length + 1 by simp] at this
    rw [this]; simp
theorem Blk.there {w : World} {g : Nat} {t : TypeId} {cs : List Value} (h : Blk w g t cs) (o n : Nat) (ho : o + n ≤ cs.length) : w.there g o n := fun j hj => by
  rw [h.cell]
  refine ⟨?_, h.frozen _⟩
  rw [List.getElem?_eq_getElem (by omega)]; rfl
theorem Blk.setCells {g : Nat} {t : TypeId} : ∀ (vs : List Value) (w : World) (cs : List Value) (o : Nat), Blk w g t cs → Blk (w.setCells g o vs) g t (setL cs o vs)
  | [], w, cs, o, h => h
  | v :: r, w, cs, o, h => by
    rw [World.setCells, setL]
    exact Blk.setCells r _ _ _ (h.set o v)
theorem Keeps.setCells {S : List Nat} {w0 : World} {g : Nat} (hp : g ∈ S ∨ w0.heap.size ≤ g) : ∀ (vs : List Value) (w : World) (o : Nat), Keeps S w0 w → Keeps S w0 (w.setCells g o vs)
  | [], w, o, h => h
  | v :: r, w, o, h => by
    rw [World.setCells]
    exact Keeps.setCells hp r _ _ (h.setCell (p := ⟨g, o, none⟩) hp v)
/-- A decoder's cells. -/
def dcells (cd ct az : List Int) (v : Value) (L : Int) : List Value := ints .i64 cd ++ (ints .i64 ct ++ (ints .i64 az ++ [v, .int .i64 L]))
def DB (w : World) (g : Nat) (cd ct az : List Int) (v : Value) (L : Int) : Prop := cd.length = 16 ∧ ct.length = 16 ∧ az.length = 16 ∧ Blk w g 149 (dcells cd ct az v L)
theorem DB.lt {w : World} {g : Nat} {cd ct az : List Int} {v : Value} {L : Int} (h : DB w g cd ct az v L) : g < w.heap.size := h.2.2.2.lt
theorem DB.keeps {S : List Nat} {w w' : World} {g : Nat} {cd ct az : List Int} {v : Value} {L : Int} (h : DB w g cd ct az v L) (hk : Keeps S w w') (hn : g ∉ S) : DB w' g cd ct az v L :=
  ⟨h.1, h.2.1, h.2.2.1, h.2.2.2.keeps hk hn⟩
theorem DB.code {w : World} {g : Nat} {cd ct az : List Int} {v : Value} {L : Int} (h : DB w g cd ct az v L) {j : Nat} (hj : j < 16) : w.cell? ⟨g, j, none⟩ = some (.int .i64 (nth cd j)) := by
  obtain ⟨h1, h2, h3, h4⟩ := h
  rw [h4.cell, dcells, List.getElem?_append_left (by simp [ints]; omega), ints_getElem?, nth_lt (by omega), List.getElem?_eq_getElem (by omega)]; rfl
theorem DB.count {w : World} {g : Nat} {cd ct az : List Int} {v : Value} {L : Int} (h : DB w g cd ct az v L) {j : Nat} (hj : j < 16) : w.cell? ⟨g, 16 + j, none⟩ = some (.int .i64 (nth ct j)) := by
  obtain ⟨h1, h2, h3, h4⟩ := h
  have e : (ints .i64 cd).length = 16 := by simp [ints, h1]
  rw [h4.cell, dcells, List.getElem?_append_right (by omega), e, show 16 + j - 16 = j by omega, List.getElem?_append_left (by simp [ints]; omega), ints_getElem?, nth_lt (by omega), List.getElem?_eq_getElem (by omega)]; rfl
theorem DB.at {w : World} {g : Nat} {cd ct az : List Int} {v : Value} {L : Int} (h : DB w g cd ct az v L) {j : Nat} (hj : j < 16) : w.cell? ⟨g, 32 + j, none⟩ = some (.int .i64 (nth az j)) := by
  obtain ⟨h1, h2, h3, h4⟩ := h
  have e : (ints .i64 cd).length = 16 := by simp [ints, h1]
  have e2 : (ints .i64 ct).length = 16 := by simp [ints, h2]
  rw [h4.cell, dcells, List.getElem?_append_right (by omega), e, List.getElem?_append_right (by omega), e2, show 32 + j - 16 - 16 = j by omega, List.getElem?_append_left (by simp [ints]; omega), ints_getElem?, nth_lt (by omega), List.getElem?_eq_getElem (by omega)]; rfl
theorem DB.syms {w : World} {g : Nat} {cd ct az : List Int} {v : Value} {L : Int} (h : DB w g cd ct az v L) : w.cell? ⟨g, 48, none⟩ = some v ∧ w.cell? ⟨g, 49, none⟩ = some (.int .i64 L) := by
  obtain ⟨h1, h2, h3, h4⟩ := h
  have e : (ints .i64 cd).length = 16 := by simp [ints, h1]
  have e2 : (ints .i64 ct).length = 16 := by simp [ints, h2]
  have e3 : (ints .i64 az).length = 16 := by simp [ints, h3]
  constructor
  · rw [h4.cell, dcells, List.getElem?_append_right (by omega), e, List.getElem?_append_right (by omega), e2, List.getElem?_append_right (by omega), e3]; rfl
  · rw [h4.cell, dcells, List.getElem?_append_right (by omega), e, List.getElem?_append_right (by omega), e2, List.getElem?_append_right (by omega), e3]; rfl
theorem DB.free {w : World} {g : Nat} {cd ct az : List Int} {v : Value} {L : Int} (h : DB w g cd ct az v L) (j : Nat) : w.frozen? ⟨g, j, none⟩ = false := h.2.2.2.frozen j
theorem DB.setAt {w : World} {g : Nat} {cd ct az : List Int} {v : Value} {L : Int} (h : DB w g cd ct az v L) {j : Nat} (hj : j < 16) (x : Int) : DB (w.setCell ⟨g, 32 + j, none⟩ (.int .i64 x)) g cd ct (az.set j x) v L := by
  obtain ⟨h1, h2, h3, h4⟩ := h
  have e : (ints .i64 cd).length = 16 := by simp [ints, h1]
  have e2 : (ints .i64 ct).length = 16 := by simp [ints, h2]
  have e3 : (ints .i64 az).length = 16 := by simp [ints, h3]
  refine ⟨h1, h2, by simp [h3], ?_⟩
  have := h4.set (32 + j) (.int .i64 x)
  unfold dcells at this ⊢
  rw [List.set_append_right _ _ (by omega), e, List.set_append_right _ _ (by omega), e2, show 32 + j - 16 - 16 = j by omega, List.set_append_left _ _ (by omega)] at this
  simpa [ints, List.map_set] using this
theorem DB.setSyms {w : World} {g : Nat} {cd ct az : List Int} {v : Value} {L : Int} (h : DB w g cd ct az v L) (v' : Value) : DB (w.setCell ⟨g, 48, none⟩ v') g cd ct az v' L := by
  obtain ⟨h1, h2, h3, h4⟩ := h
  have e : (ints .i64 cd).length = 16 := by simp [ints, h1]
  have e2 : (ints .i64 ct).length = 16 := by simp [ints, h2]
  have e3 : (ints .i64 az).length = 16 := by simp [ints, h3]
  refine ⟨h1, h2, h3, ?_⟩
  have := h4.set 48 v'
  unfold dcells at this ⊢
  rw [List.set_append_right _ _ (by omega), e, List.set_append_right _ _ (by omega), e2, List.set_append_right _ _ (by omega), e3] at this
  exact this
theorem DB.setLong {w : World} {g : Nat} {cd ct az : List Int} {v : Value} {L : Int} (h : DB w g cd ct az v L) (x : Int) : DB (w.setCell ⟨g, 49, none⟩ (.int .i64 x)) g cd ct az v x := by
  obtain ⟨h1, h2, h3, h4⟩ := h
  have e : (ints .i64 cd).length = 16 := by simp [ints, h1]
  have e2 : (ints .i64 ct).length = 16 := by simp [ints, h2]
  have e3 : (ints .i64 az).length = 16 := by simp [ints, h3]
  refine ⟨h1, h2, h3, ?_⟩
  have := h4.set 49 (.int .i64 x)
  unfold dcells at this ⊢
  rw [List.set_append_right _ _ (by omega), e, List.set_append_right _ _ (by omega), e2, List.set_append_right _ _ (by omega), e3] at this
  exact this
/-- A new decoder's rows are laid. -/
theorem DB.start {w : World} {g : Nat} {Z : List Value} (hZ : Z = dcells (List.replicate 16 0) (List.replicate 16 0) (List.replicate 16 0) (.slice none 0 0) 0) (h : Blk w g 149 Z) (cd ct : List Int) (h1 : cd.length = 16) (h2 : ct.length = 16) :
    w.there g 0 (ints .i64 cd).toArray.size ∧ (w.setCells g 0 (ints .i64 cd)).there g 16 (ints .i64 ct).toArray.size ∧ DB ((w.setCells g 0 (ints .i64 cd)).setCells g 16 (ints .i64 ct)) g cd ct (List.replicate 16 0) (.slice none 0 0) 0 := by
  subst hZ
  have e : (ints .i64 cd).length = 16 := by simp [ints, h1]
  have e2 : (ints .i64 ct).length = 16 := by simp [ints, h2]
  have a := Blk.setCells (ints .i64 cd) w _ 0 h
  have b := setL_mid (ints .i64 cd) [] (ints .i64 (List.replicate 16 0)) (ints .i64 (List.replicate 16 0) ++ (ints .i64 (List.replicate 16 0) ++ [.slice none 0 0, .int .i64 0])) (by rw [e]; simp [ints])
  rw [show setL (dcells (List.replicate 16 0) (List.replicate 16 0) (List.replicate 16 0) (.slice none 0 0) 0) 0 (ints .i64 cd) = _ from b] at a
  rw [List.nil_append] at a
  have c := Blk.setCells (ints .i64 ct) _ _ 16 a
  have d := setL_mid (ints .i64 ct) (ints .i64 cd) (ints .i64 (List.replicate 16 0)) (ints .i64 (List.replicate 16 0) ++ [.slice none 0 0, .int .i64 0]) (by rw [e2]; simp [ints])
  rw [e] at d
  rw [d] at c
  refine ⟨h.there _ _ ?_, a.there _ _ ?_, h1, h2, by simp, c⟩
  · simp [dcells, ints, h1]
  · simp [ints, h1, h2]
theorem there_append {xs : List Value} {n : Nat} (h : xs.length = n) : xs.toArray.size = n := by simpa using h
end Go.Proofs.YtcblibefmclloaaDoor

set_option linter.unusedVariables false
set_option linter.unusedSimpArgs false
namespace Go.Proofs.YtcblibefmclloaaDoor
open Go.RowKit
/-- The first bits of bytes. -/
def bitsP (bs : List Int) (m : Nat) : List Int := (List.range m).map (bitAt bs)
theorem bitsP_len (bs : List Int) (m : Nat) : (bitsP bs m).length = m := by simp [bitsP]
theorem bitsP_succ (bs : List Int) (m : Nat) : bitsP bs (m + 1) = bitsP bs m ++ [bitAt bs m] := by simp [bitsP, List.range_succ]
theorem bitsP_nth (bs : List Int) (m j : Nat) (h : j < m) : nth (bitsP bs m) j = bitAt bs j := by simp [bitsP, nth, List.getD, h]
theorem ri_one (w : World) (k : IntKind) (t : TypeId) (x : Int) : RI k (w.alloc (.cells #[.int k x] t)) (some ⟨w.heap.size, 0, none⟩) 1 [x] := by
  have := (blk_new w t (ints k [x]))
  have h2 := Blk.ri (xs := [x]) (ys := []) (k := k) (by simpa [ints] using this)
  exact h2
set_option maxRecDepth 100000 in
set_option maxHeartbeats 1000000 in
theorem of_calls (w : World) (A : Option Addr) (n c : Nat) (bs : List Int) (hr : RI .u8 w A n bs) (hbyte : ∀ j, 0 ≤ nth bs j ∧ nth bs j ≤ 255) (hn : n ≤ 10000000) :
    Calls Tryd.prog 27 #[.slice A n c] w fun e w' => ∃ v, e = .returned v ∧ w'.ownsRow w.heap.size 5 1 v (8 * n) (ints .u8 (bitsP bs (8 * n))) ∧ Below w.heap.size w w' := by
  have HR := Lib.hid hr
  have HBY := Lib.hid hbyte
  clear hr hbyte
  go_enter Tryd.func27, Tryd.ntmps27
  go_wp2_with fail
  go_loopw [3, 4] (fun v iv wr => ∃ i : Nat, i ≤ n ∧ iv = .int .i64 i ∧ Hid (wr.ownsRow w.heap.size 5 1 v (8 * i) (ints .u8 (bitsP bs (8 * i)))) ∧ Hid (Below w.heap.size w wr)) (fun _ iv _ => n - (intOf iv).toNat)
  case atStart => exact ⟨0, by omega, rfl, Lib.hid (World.ownsRow_nil _ _ _ _), Lib.hid (Below.refl _ _)⟩
  case round =>
    rename_i v _ _
    obtain ⟨i, hi, rfl, HO, HB⟩ := hrel
    by_cases hlt : i < n
    · obtain ⟨b, o, rfl, hc⟩ := HR.out.at hlt
      have hc := (Keeps.of_below (S := []) HB.out).cell (by simp) hc
      obtain ⟨hb0, hb1⟩ := HBY.out i
      obtain ⟨wm, rfl⟩ : ∃ wm : World, wm = wr := ⟨_, rfl⟩
      go_wp2_with fail
      go_loopw [3, 5, 6] (fun v cv kv wr => ∃ (k : Nat) (x : Int), k ≤ 8 ∧ kv = .int .i64 k ∧ cv = .int .u8 x ∧ 0 ≤ x ∧ x ≤ 255 ∧ Hid (x = nth bs i / 2 ^ k) ∧ Hid (wr.ownsRow w.heap.size 5 1 v (8 * i + k) (ints .u8 (bitsP bs (8 * i + k)))) ∧ Hid (Below w.heap.size w wr)) (fun _ _ kv _ => 8 - (intOf kv).toNat)
      case atStart => exact ⟨0, nth bs i, by omega, rfl, rfl, hb0, hb1, Lib.hid (by simp), HO, HB⟩
      case round =>
        clear HO HB
        obtain ⟨k, x, hk, rfl, rfl, hx0, hx1, HX, HO, HB⟩ := hrel
        by_cases hlk : k < 8
        · have HBIT : Hid (bitAt bs (8 * i + k) = x % 2) := by
            show _ = _
            unfold bitAt
            rw [HX.out, show (8 * i + k) / 8 = i by omega, show (8 * i + k) % 8 = k by omega]
          have hge := HB.out.size
          have e3 : x.tmod 2 = x % 2 := by rw [Int.tmod_eq_emod_of_nonneg hx0]
          have e4 : x % 2 % 256 = x % 2 := by omega
          have HRI : Hid (RI .u8 (wr.alloc (.cells #[.int .u8 (x % 2)] 5)) (some ⟨wr.heap.size, 0, none⟩) 1 [x % 2]) := Lib.hid (ri_one wr _ _ _)
          have HOA := Lib.hid (own_keeps HO.out ((Keeps.refl [] wr).alloc (.cells #[.int .u8 (x % 2)] 5)) (by simp))
          have HBA := Lib.hid (HB.out.alloc hge (.cells #[.int .u8 (x % 2)] 5))
          clear HO HB
          go_wp2_with (at_builtin; refine app_bytes rfl (.tmp 21) (.tmp 24) rfl w.heap.size _ _ _ rfl (by exact HOA.out) _ 1 1 [x % 2] rfl (by exact HRI.out) ?c1 ?c3 ?c4 ?_)
          case c1 => simp
          case c3 => omega
          case c4 => simp; omega
          intro v' w1 hv hg
          have HO1 : Hid (w1.ownsRow w.heap.size 5 1 v' (8 * i + (k + 1)) (ints .u8 (bitsP bs (8 * i + (k + 1))))) := by
            rw [← Nat.add_assoc, bitsP_succ, HBIT.out]; exact hv
          have HB1 := Lib.hid (HBA.out.grown hg (by simp; omega) (fun k hk => (HOA.out.lt k hk).1))
          clear hv hg HOA HBA
          go_wp2_with fail
          go_roundw
          case rel => exact ⟨k + 1, x / 2, by omega, by go_num, rfl, by omega, by omega, Lib.hid (by rw [HX.out, div_two]), HO1, HB1⟩
          case measure => simp [intOf]; omega
        · obtain rfl : k = 8 := by omega
          go_wp2_with fail
          go_roundw
          case rel => exact ⟨i + 1, by omega, by go_num, HO, HB⟩
          case measure => simp [intOf]; omega
    · obtain rfl : i = n := by omega
      go_wp2_with fail
      go_ret
      exact ⟨_, rfl, HO.out, HB.out⟩
end Go.Proofs.YtcblibefmclloaaDoor

set_option linter.unusedVariables false
set_option linter.unusedSimpArgs false
namespace Go.Proofs.YtcblibefmclloaaDoor
open Go.RowKit
theorem own_form' {w : World} {base : Nat} {e : TypeId} {size n : Nat} {v : Value} {xs : List Value} (h : w.ownsRow base e size v n xs) : ∃ A c, v = .slice A n c := by
  rcases h.2 with ⟨rfl, rfl⟩ | ⟨g, cap, cur, rfl, _⟩
  · exact ⟨_, _, rfl⟩
  · exact ⟨_, _, rfl⟩
/-- A decoder under way. -/
def DSt (w : World) (g : Nat) (l : List Int) (a : Nat) (S : List Int) (L : Int) : Prop :=
  ∃ v, DB w g (lowL (lenCnt l) 16) (lenCnt l) (atL l a) v L ∧ w.ownsRow (g + 1) 3 1 v S.length (ints .i64 S)
/-- A decoder of a list of lengths, all of it from a block on. -/
def Dec (w : World) (g : Nat) (l : List Int) : Prop := DSt w g l 16 (symsB l 16) (longN l 16)
theorem DSt.keeps {w w' : World} {g a : Nat} {l S : List Int} {L : Int} {K : List Nat} (h : DSt w g l a S L) (hk : Keeps K w w') (hK : ∀ x ∈ K, x < g ∨ w.heap.size ≤ x) : DSt w' g l a S L := by
  obtain ⟨v, h1, h2⟩ := h
  refine ⟨v, h1.keeps hk (fun hm => by have := h1.lt; rcases hK g hm with h | h <;> omega), own_keeps h2 hk fun x hx hm => ?_⟩
  have a := own_lo h2 x hx
  have b := own_hi h2 x hx
  rcases hK x hm with h | h <;> omega
theorem DSt.at' {w : World} {g a : Nat} {l S : List Int} {L : Int} (h : DSt w g l a S L) (j : Nat) (hj : j < 16) (x : Int) (as' : List Int) (ha : (atL l a).set j x = atL l as'.length) : DSt (w.setCell ⟨g, 32 + j, none⟩ (.int .i64 x)) g l as'.length S L := by
  obtain ⟨v, h1, h2⟩ := h
  refine ⟨v, ?_, own_keeps h2 (S := [g]) ((Keeps.refl [g] w).setCell (Or.inl (by simp)) _) fun x hx hm => ?_⟩
  · have := h1.setAt hj x; rwa [ha] at this
  · have a := own_lo h2 x hx
    rw [List.mem_singleton.1 hm] at a; omega
/-- What making a decoder is to give. -/
def Made (w : World) (l : List Int) (e : Ending) (w' : World) : Prop :=
  Below w.heap.size w w' ∧ if checkF l = 0 then ∃ g, e = .returned (.tuple #[.pointer (some ⟨g, 0, none⟩), .int .i64 0]) ∧ Dec w' g l ∧ w.heap.size ≤ g
  else e = .returned (.tuple #[.pointer none, .int .i64 (checkF l)])
theorem made_err {w w' : World} {l : List Int} {e : Int} (hc : ¬ checkF l = 0) (he : e = checkF l) (h : Below w.heap.size w w') : Made w l (.returned (.tuple #[.pointer none, .int .i64 e])) w' := by
  subst he
  exact ⟨h, by rw [if_neg hc]⟩
theorem made_ok {w w' : World} {l : List Int} {g : Nat} (hc : checkF l = 0) (h : Below w.heap.size w w') (hd : Dec w' g l) (hg : w.heap.size ≤ g) : Made w l (.returned (.tuple #[.pointer (some ⟨g, 0, none⟩), .int .i64 0])) w' :=
  ⟨h, by rw [if_pos hc]; exact ⟨g, rfl, hd, hg⟩⟩
set_option maxRecDepth 100000 in
set_option maxHeartbeats 2000000 in
theorem new_calls (w : World) (A : Option Addr) (n c : Nat) (l : List Int) (hl : RI .i64 w A n l) (hn : n ≤ 140737488355328) :
    Calls Tryd.prog 80 #[.slice A n c] w (Made w l) := by
  have HL := Lib.hid hl
  have HLL := Lib.hid hl.len
  clear hl
  go_enter Tryd.func80, Tryd.ntmps80
  go_wp2_with fail
  refine (check_calls _ _ _ _ l HL.out hn).mono ?_
  rintro _ w1 ⟨rfl, hd⟩
  have HD := Lib.hid hd
  clear hd
  by_cases hc : checkF l = 0
  · have e1 : (checkF l != 0) = false := by simp [hc]
    have HC := Lib.hid hc
    have hok := check_ok hc
    have HOK := Lib.hid hok.2
    have hn288 : n ≤ 288 := by rw [← HLL.out]; exact hok.1
    have HL1 := Lib.hid (HL.out.keeps (HD.out.keeps (S := [])) (off_nil _))
    have HB1 := Lib.hid (HD.out.keeps (S := [])).below
    clear hc hok
    go_upto_region 5 with fail
    obtain ⟨wz, hwz⟩ : ∃ wz, wz = (w1.alloc (.cells (dcells (List.replicate 16 0) (List.replicate 16 0) (List.replicate 16 0) (.slice none 0 0) 0).toArray 149)) := ⟨_, rfl⟩
    change Code.wp _ _ _ _ (w1.alloc (.cells (dcells (List.replicate 16 0) (List.replicate 16 0) (List.replicate 16 0) (.slice none 0 0) 0).toArray 149))
    obtain ⟨g, hg⟩ : ∃ g, g = w1.heap.size := ⟨_, rfl⟩
    rw [← hg, ← hwz]
    have HZ : Hid (Blk wz g 149 (dcells (List.replicate 16 0) (List.replicate 16 0) (List.replicate 16 0) (.slice none 0 0) 0)) := by rw [hwz, hg]; exact blk_new w1 _ _
    have HKZ : Hid (Keeps [] w wz) := by rw [hwz]; exact Lib.hid ((HD.out.keeps (S := [])).alloc _)
    have HG : Hid (w.heap.size ≤ g) := by rw [hg]; exact Lib.hid HB1.out.size
    have HL2 := Lib.hid (HL.out.keeps HKZ.out (off_nil _))
    clear hg hwz HL1 HB1
    go_wp2_with fail
    refine (first_calls _ _ _ _ l HL2.out hn288 HOK.out).mono ?_
    rintro _ w2 ⟨rfl, hb⟩
    have HBZ := Lib.hid (HZ.out.keeps (Keeps.of_below (S := []) hb) (by simp))
    have HK2 := Lib.hid (HKZ.out.trans ((Keeps.of_below (S := []) hb)))
    clear hb HZ HKZ HL2
    obtain ⟨t1, t2, db⟩ := DB.start rfl HBZ.out (lowL (lenCnt l) 16) (lenCnt l) (lowL_len _ _) (lenCnt_len _)
    have hk3 : Keeps [] w ((w2.setCells g 0 (ints .i64 (lowL (lenCnt l) 16))).setCells g 16 (ints .i64 (lenCnt l))) := Keeps.setCells (.inr HG.out) _ _ _ (Keeps.setCells (.inr HG.out) _ _ _ HK2.out)
    obtain ⟨ca, hca⟩ : ∃ ca : Array Value, ca = (ints .i64 (lowL (lenCnt l) 16)).toArray := ⟨_, rfl⟩
    obtain ⟨cb, hcb⟩ : ∃ cb : Array Value, cb = (ints .i64 (lenCnt l)).toArray := ⟨_, rfl⟩
    have ka : ints .i64 (lowL (lenCnt l) 16) = ca.toList := by rw [hca]
    have kb : ints .i64 (lenCnt l) = cb.toList := by rw [hcb]
    have OA : Hid (ca.all (·.oneCell') = true) := by rw [hca]; exact Lib.hid (all_ints_one _)
    have OB : Hid (cb.all (·.oneCell') = true) := by rw [hcb]; exact Lib.hid (all_ints_one _)
    have LX : Hid (ca.size = 16) := by show _ = _; rw [hca]; simp [ints, lowL_len]
    have LY : Hid (cb.size = 16) := by show _ = _; rw [hcb]; simp [ints, lenCnt_len]
    rw [← hca, ← hcb]
    rw [← hca] at t1
    rw [← hcb, ka] at t2
    rw [ka, kb] at db hk3
    have T1 := Lib.hid t1
    have T2 := Lib.hid t2
    have DB0 := Lib.hid db
    have HK3 := Lib.hid hk3
    clear t1 t2 db hk3 ka kb hca hcb
    have KX : Hid ((Tryd.prog.info? 140).map (·.size) = some ca.size) := by show _ = _; rw [LX.out]; kernel_rfl
    have KY : Hid ((Tryd.prog.info? 140).map (·.size) = some cb.size) := by show _ = _; rw [LY.out]; kernel_rfl
    go_wp2_with (first
      | (refine wpList_store_mid rfl 140 (.tmp 24) (.tmp 21) rfl g 0 ca rfl rfl T1.out KX.out OA.out ?_)
      | (refine wpList_store_mid rfl 140 (.tmp 26) (.tmp 22) rfl g 16 cb rfl rfl T2.out KY.out OB.out ?_))
    generalize (w2.setCells g 0 ca.toList).setCells g 16 cb.toList = w3 at *
    have HS0 : Hid (DSt w3 g l 1 (symsB l 1) (longN l 1)) := by rw [symsB_one, longN_one]; exact ⟨_, by rw [atL_one]; exact DB0.out, World.ownsRow_nil _ _ _ _⟩
    clear HBZ HK2 T1 T2 DB0 KX KY OA OB LX LY
    have HLk : Hid (∀ wr : World, Keeps [] w wr → RI .i64 wr A n l) := Lib.hid (fun wr hk => HL.out.keeps hk (off_nil _))
    go_loopw [6] (fun mv wr => ∃ m : Nat, 1 ≤ m ∧ m ≤ 16 ∧ mv = .int .i64 m ∧ Hid (DSt wr g l m (symsB l m) (longN l m)) ∧ Hid (Keeps [] w wr)) (fun mv _ => 16 - (intOf mv).toNat)
    case atStart => exact ⟨1, by omega, by omega, rfl, HS0, HK3⟩
    case round =>
      clear HS0 HK3
      obtain ⟨m, hm1, hm2, rfl, HS, HK⟩ := hrel
      by_cases hm : m ≤ 15
      · have e0 : decide ((m : Int) ≤ 15) = true := by simp; omega
        have hsl := symsB_len l m
        obtain ⟨v, hdb, how⟩ := HS.out
        obtain ⟨vA, vc, rfl⟩ := own_form' how
        obtain ⟨q1, -⟩ := hdb.syms
        have q2 := hdb.at (j := m) (by omega)
        have q3 := hdb.free (32 + m)
        have HS1 : Hid (DSt (wr.setCell ⟨g, 32 + m, none⟩ (.int .i64 ((symsB l m).length : Int))) g l (m + 1) (symsB l m ++ symsOf l m 0) (longA l m 0)) := by
          have := HS.out.at' m (by omega) ((symsB l m).length : Int) (List.replicate (m + 1) 0) (by rw [List.length_replicate, atL_next l m hm1 (by omega)])
          rw [List.length_replicate] at this
          rw [longA_zero l m (by omega), show symsOf l m 0 = [] from rfl, List.append_nil]
          exact this
        have HK1 := Lib.hid (HK.out.setCell (p := ⟨g, 32 + m, none⟩) (.inr HG.out) (.int .i64 ((symsB l m).length : Int)))
        generalize nth (atL l m) m = z at *
        have HSL := Lib.hid hsl
        generalize hsz : (symsB l m).length = sz at *
        have HSZ := Lib.hid hsz
        clear hdb how HS HK hsl hsz
        go_wp2_with fail
        go_region
        go_wp2_with fail
        have HS2 : Hid (DSt (wr.setCell ⟨g, 32 + m, none⟩ (.int .i64 (sz : Int))).drew g l (m + 1) (symsB l m ++ symsOf l m 0) (longA l m 0)) := Lib.hid (HS1.out.keeps (Keeps.refl [] _).drew (by simp))
        have HK2 : Hid (Keeps [] w (wr.setCell ⟨g, 32 + m, none⟩ (.int .i64 (sz : Int))).drew) := Lib.hid HK1.out.drew
        clear HS1 HK1
        have q4 : 0 = 0 := rfl
        clear q1 q2 q3 q4
        go_loopw [43] (fun iv wr => ∃ i : Nat, i ≤ n ∧ iv = .int .i64 i ∧ Hid (DSt wr g l (m + 1) (symsB l m ++ symsOf l m i) (longA l m i)) ∧ Hid (Keeps [] w wr)) (fun iv _ => n - (intOf iv).toNat)
        case atStart => exact ⟨0, by omega, rfl, HS2, HK2⟩
        case round =>
          clear HS2 HK2
          obtain ⟨i, hi, rfl, HS, HK⟩ := hrel
          by_cases hlt : i < n
          · have hil : Hid (i < l.length) := by have := HLL.out; show _ < _; omega
            obtain ⟨b, o, rfl, hc⟩ := HL.out.at hlt
            have hc := HK.out.cell (by simp) hc
            by_cases hx : nth l i = m
            · have e1 : (nth l i == (m : Int)) = true := by simpa using hx
              have hs1 := symsOf_step l m i hx
              have hs2 := longA_step l m i (by omega) hm1 hil.out hx
              have HX1 := Lib.hid hs1
              have HX2 := Lib.hid hs2
              have hol : (symsOf l m i).length ≤ i := symsOf_len l m i
              have hsl := symsB_len l m
              clear hx hs1 hs2
              obtain ⟨v, hdb, how⟩ := HS.out
              obtain ⟨vA, vc, hvf⟩ := own_form' how
              subst hvf
              have hsn : (symsB l m ++ symsOf l m i).length ≤ 10000 := by
                rw [List.length_append]
                have : m * l.length ≤ 15 * 288 := Nat.mul_le_mul (by omega) (by have := HLL.out; omega)
                omega
              have HX3 : Hid (symsB l m ++ symsOf l m (i + 1) = (symsB l m ++ symsOf l m i) ++ [(i : Int)]) := by show _ = _; rw [HX1.out, List.append_assoc]
              generalize symsB l m ++ symsOf l m i = S at *
              generalize hsz : S.length = sz at *
              obtain ⟨q1, -⟩ := hdb.syms
              have HOW := Lib.hid (own_keeps how ((Keeps.refl [] wr).alloc (.cells #[.int .i64 (i : Int)] 3)) (by simp))
              have HDB := Lib.hid (hdb.keeps ((Keeps.refl [] wr).alloc (.cells #[.int .i64 (i : Int)] 3)) (by simp))
              have HRI : Hid (RI .i64 (wr.alloc (.cells #[.int .i64 (i : Int)] 3)) (some ⟨wr.heap.size, 0, none⟩) 1 [(i : Int)]) := Lib.hid (ri_one wr _ _ _)
              have HKA := Lib.hid (HK.out.alloc (.cells #[.int .i64 (i : Int)] 3))
              have hgl := hdb.lt
              have HSZ := Lib.hid hsz
              clear HS HK hdb how hol hsl hsz
              go_wp2_with (at_builtin; refine app_intsG rfl (.tmp 55) (.tmp 57) rfl (g + 1) _ _ S rfl (by exact HOW.out) _ 1 1 [(i : Int)] rfl (by exact HRI.out) ?c1 ?c2 ?c3 ?c4 ?_)
              case c1 => simp
              case c2 => simp
              case c3 => omega
              case c4 => simp; omega
              intro v' w4 hv hg
              obtain ⟨A', c', hvf⟩ := own_form' hv
              subst hvf
              have hk4 := (Keeps.refl (Value.ownBlock (.slice vA sz vc)).toList (wr.alloc (.cells #[.int .i64 (i : Int)] 3))).grown hg (fun k hk => Or.inl (by simp [hk]))
              have hng : g ∉ (Value.ownBlock (.slice vA sz vc)).toList := fun hm => by
                have := own_lo HOW.out g (by simpa using hm)
                omega
              have hdb4 := HDB.out.keeps hk4 hng
              have hkw := HKA.out.grown hg (fun k hk => Or.inr (by have := own_lo HOW.out k hk; have := HG.out; omega))
              have HDB4 := Lib.hid hdb4
              have HKW := Lib.hid hkw
              have HV := Lib.hid hv
              obtain ⟨r1, -⟩ := hdb4.syms
              have r2 := hdb4.free 48
              have hdb5 := hdb4.setSyms (.slice A' (sz + 1) c')
              obtain ⟨-, r3⟩ := hdb5.syms
              have r4 := hdb5.free 49
              have HDB6 := Lib.hid (hdb5.setLong m)
              have hk6 : Keeps [g] w4 ((w4.setCell ⟨g, 48, none⟩ (.slice A' (sz + 1) c')).setCell ⟨g, 49, none⟩ (.int .i64 (m : Int))) := ((Keeps.refl [g] w4).setCell (Or.inl (by simp)) _).setCell (Or.inl (by simp)) _
              have HO6 : Hid (((w4.setCell ⟨g, 48, none⟩ (.slice A' (sz + 1) c')).setCell ⟨g, 49, none⟩ (.int .i64 (m : Int))).ownsRow (g + 1) 3 1 (.slice A' (sz + 1) c') (sz + 1) (ints .i64 (S ++ [(i : Int)]))) :=
                own_keeps HV.out hk6 (fun x hx hm => by have := own_lo HV.out x hx; rw [List.mem_singleton.1 hm] at this; omega)
              have HKX := Lib.hid ((HKW.out.setCell (p := ⟨g, 48, none⟩) (.inr HG.out) (.slice A' (sz + 1) c')).setCell (p := ⟨g, 49, none⟩) (.inr HG.out) (.int .i64 (m : Int)))
              clear hk4 hng hdb4 hkw hv hg hdb5 hk6 HOW HDB HRI HKA HDB4 HKW HV
              go_wp2_with fail
              go_roundw
              case rel => exact ⟨i + 1, by omega, by go_num, by rw [HX2.out, HX3.out]; exact ⟨.slice A' (sz + 1) c', HDB6.out, by rw [List.length_append, HSZ.out]; exact HO6.out⟩, HKX⟩
              case measure => simp [intOf]; omega
            · have e1 : (nth l i == (m : Int)) = false := by simpa using hx
              have HX1 := Lib.hid (symsOf_skip l m i hx)
              have HX2 := Lib.hid (longA_skip l m i (by omega) hil.out hx)
              clear hx
              go_wp2_with fail
              go_roundw
              case rel => exact ⟨i + 1, by omega, by go_num, by rw [HX1.out, HX2.out]; exact HS, HK⟩
              case measure => simp [intOf]; omega
          · obtain rfl : i = n := by omega
            have HS3 : Hid (DSt wr g l (m + 1) (symsB l (m + 1)) (longN l (m + 1))) := by
              have := HS.out
              rw [← HLL.out, longA_all l m hm1, ← symsB_next l m hm1] at this; exact this
            go_wp2_with fail
            go_roundw
            case rel => exact ⟨m + 1, by omega, by omega, by go_num, HS3, HK⟩
            case measure => simp [intOf]; omega
      · obtain rfl : m = 16 := by omega
        go_wp2_with fail
        go_ret2
        exact made_ok HC.out HK.out.below HS.out HG.out
  · have e1 : (checkF l != 0) = true := by simpa using hc
    have HR : Hid (¬ checkF l = 0) := Lib.hid hc
    go_wp2_with fail
    go_ret2
    exact made_err HR.out rfl (HD.out.keeps (S := [])).below
end Go.Proofs.YtcblibefmclloaaDoor

set_option linter.unusedVariables false
set_option linter.unusedSimpArgs false
namespace Go.Proofs.YtcblibefmclloaaDoor
open Go.RowKit
/-- A decoder that lies before a place. -/
def DecT (w : World) (g top : Nat) (l : List Int) : Prop :=
  ∃ A c, DB w g (lowL (lenCnt l) 16) (lenCnt l) (atL l 16) (.slice A (symsB l 16).length c) (longN l 16) ∧ RI .i64 w A (symsB l 16).length (symsB l 16) ∧ g < top ∧ ∀ x, A = some x → x.block < top
theorem DecT.keeps {w w' : World} {g top : Nat} {l : List Int} {K : List Nat} (h : DecT w g top l) (hk : Keeps K w w') (hK : ∀ x ∈ K, top ≤ x) : DecT w' g top l := by
  obtain ⟨A, c, h1, h2, h3, h4⟩ := h
  refine ⟨A, c, h1.keeps hk (fun hm => by have := hK g hm; omega), h2.keeps hk (fun x hx hm => by have := hK x.block hm; have := h4 x hx; omega), h3, h4⟩
theorem Dec.top {w : World} {g : Nat} {l : List Int} (h : Dec w g l) : DecT w g w.heap.size l := by
  obtain ⟨v, h1, h2⟩ := h
  obtain ⟨A, c, rfl, hr, _, ha⟩ := own_ri h2
  exact ⟨A, c, h1, hr, h1.lt, fun x hx => (ha x hx).2.1⟩
/-- A decoder apart from a reader's block. -/
def DecN (w : World) (g gr : Nat) (l : List Int) : Prop :=
  ∃ A c, DB w g (lowL (lenCnt l) 16) (lenCnt l) (atL l 16) (.slice A (symsB l 16).length c) (longN l 16) ∧ RI .i64 w A (symsB l 16).length (symsB l 16) ∧ g ≠ gr ∧ ∀ x, A = some x → x.block ≠ gr
theorem DecN.keeps {w w' : World} {g gr : Nat} {l : List Int} {K : List Nat} (h : DecN w g gr l) (hk : Keeps K w w') (hK : ∀ x ∈ K, x = gr) : DecN w' g gr l := by
  obtain ⟨A, c, h1, h2, h3, h4⟩ := h
  exact ⟨A, c, h1.keeps hk (fun hm => h3 (hK g hm)), h2.keeps hk (fun x hx hm => h4 x hx (hK x.block hm)), h3, h4⟩
theorem DecT.apart {w : World} {g top gr : Nat} {l : List Int} (h : DecT w g top l) (ht : top ≤ gr) : DecN w g gr l := by
  obtain ⟨A, c, h1, h2, h3, h4⟩ := h
  exact ⟨A, c, h1, h2, by omega, fun x hx => by have := h4 x hx; omega⟩
theorem Dec.apart {w : World} {g gr : Nat} {l : List Int} (h : Dec w g l) (hg : gr < g) : DecN w g gr l := by
  obtain ⟨v, h1, h2⟩ := h
  obtain ⟨A, c, rfl, hr, _, ha⟩ := own_ri h2
  exact ⟨A, c, h1, hr, by omega, fun x hx => by have := (ha x hx).1; omega⟩
/-- What is read next: from the code so far, so many bits of it taken. -/
def decGo (l bs : List Int) (p : Nat) : Nat → Nat → Int → Int × Int × Nat
  | 0, _, _ => (0, 32, 0)
  | f + 1, n, x => if p + n + 1 ≤ 8 * bs.length then
      if 0 ≤ 2 * x + bitAt bs (p + n) - lowF (lenCnt l) (n + 1) ∧ 2 * x + bitAt bs (p + n) - lowF (lenCnt l) (n + 1) < nth (lenCnt l) (n + 1) then
        (nth (symsB l 16) ((symsB l (n + 1)).length + (2 * x + bitAt bs (p + n) - lowF (lenCnt l) (n + 1)).toNat), 0, n + 1)
      else decGo l bs p f (n + 1) (2 * x + bitAt bs (p + n))
    else (0, 10, 0)
def decF (l bs : List Int) (p : Nat) : Int × Int × Nat := decGo l bs p (longN l 16) 0 0
theorem or_bit64 (v b : Int) (h0 : 0 ≤ v) (h : v < 65536) (hb : 0 ≤ b ∧ b ≤ 1) : Go.bits .or .i64 (v * 2) b = 2 * v + b := by
  have := bits_join .i64 62 (by decide) wraps_i64 1 (v * 2) b (by omega) (by omega) (by omega) (by omega) (by omega) (by omega)
  rw [this]; omega
theorem take1_calls (w : World) (g : Nat) (A : Option Addr) (c : Nat) (bs : List Int) (p : Nat) (hr : Rdr w g A c bs p) (hf : p + 1 ≤ 8 * bs.length) :
    Calls Tryd.prog 49 #[.pointer (some ⟨g, 0, none⟩), .int .i64 1] w fun e w' => e = .returned (.tuple #[.int .u32 (bitAt bs p), .int .i64 0]) ∧ Rdr w' g A c bs (p + 1) ∧ Keeps [g] w w' := by
  have := take_calls w g A c bs p 1 hr (by omega) hf
  simpa [numB] using this
theorem take1_end (w : World) (g : Nat) (A : Option Addr) (c : Nat) (bs : List Int) (p : Nat) (hr : Rdr w g A c bs p) (hf : 8 * bs.length < p + 1) :
    Calls Tryd.prog 49 #[.pointer (some ⟨g, 0, none⟩), .int .i64 1] w fun e w' => e = .returned (.tuple #[.int .u32 0, .int .i64 10]) ∧ Dr w w' := by
  have := take_end w g A c bs p 1 hr (by omega) hf
  simpa using this
/-- What reading a symbol is to give. -/
def Nexted (w : World) (gr : Nat) (A : Option Addr) (c : Nat) (bs : List Int) (p : Nat) (r : Int × Int × Nat) (e : Ending) (w' : World) : Prop :=
  e = .returned (.tuple #[.int .i64 r.1, .int .i64 r.2.1]) ∧ Rdr w' gr A c bs (p + r.2.2) ∧ Keeps [gr] w w'
theorem nexted {w w' : World} {gr : Nat} {A : Option Addr} {c : Nat} {bs : List Int} {p k : Nat} {r : Int × Int × Nat} {s e : Int} (hr : r = (s, e, k)) (h : Rdr w' gr A c bs (p + k)) (hk : Keeps [gr] w w') :
    Nexted w gr A c bs p r (.returned (.tuple #[.int .i64 s, .int .i64 e])) w' := by
  subst hr; exact ⟨rfl, h, hk⟩
set_option maxRecDepth 100000 in
set_option maxHeartbeats 1000000 in
theorem nextN_calls (w : World) (g gr : Nat) (l : List Int) (A : Option Addr) (c : Nat) (bs : List Int) (p : Nat) (hd : DecN w g gr l) (hr : Rdr w gr A c bs p) (hl : l.length ≤ 288) :
    Calls Tryd.prog 81 #[.pointer (some ⟨g, 0, none⟩), .pointer (some ⟨gr, 0, none⟩)] w (Nexted w gr A c bs p (decF l bs p)) := by
  have HD := Lib.hid hd
  have HR := Lib.hid hr
  have HL := Lib.hid hl
  have hLL : longN l 16 < 16 := (longN_le l 16).resolve_right (by omega)
  obtain ⟨L, hL⟩ : ∃ L, L = longN l 16 := ⟨_, rfl⟩
  rw [← hL] at hLL
  have HLn := Lib.hid hL
  clear hd hr hl hL
  go_enter Tryd.func81, Tryd.ntmps81
  go_wp2_with fail
  go_step3
  go_wp2_with fail
  go_step3
  go_wp2_with fail
  go_loopw [6, 7, 8] (fun ev xv nv wr => ∃ (n : Nat) (x : Int), n ≤ L ∧ ev = .int .i64 32 ∧ nv = .int .i64 n ∧ xv = .int .i64 x ∧ 0 ≤ x ∧ x < 32768 ∧ Hid (x < 2 ^ n) ∧ Hid (decF l bs p = decGo l bs p (L - n) n x) ∧ Hid (Rdr wr gr A c bs (p + n)) ∧ Hid (Keeps [gr] w wr)) (fun _ _ nv _ => L - (intOf nv).toNat)
  case atStart => exact ⟨0, 0, by omega, rfl, rfl, rfl, by omega, by omega, Lib.hid (by simp), Lib.hid (by rw [HLn.out]; rfl), HR, Lib.hid (Keeps.refl _ _)⟩
  case round =>
    clear HR
    obtain ⟨n, x, hn, rfl, rfl, rfl, hx0, hx1, HX, HDF, HR, HK⟩ := hrel
    have HD1 := Lib.hid (HD.out.keeps HK.out (fun y hy => List.mem_singleton.1 hy))
    obtain ⟨sA, sc, hdb, hri, hgt, hat⟩ := HD1.out
    obtain ⟨q1, q2⟩ := hdb.syms
    rw [← HLn.out] at q2
    have HDB := Lib.hid hdb
    have HRI := Lib.hid hri
    have HAT := Lib.hid hat
    clear hdb hri hat q1
    by_cases hlt : n < L
    · have e0 : decide (n < L) = true := by simpa using hlt
      by_cases hend : p + n + 1 ≤ 8 * bs.length
      · have HEND := Lib.hid hend
        clear hend
        go_wp2_with fail
        refine (take1_calls _ _ _ _ _ _ HR.out HEND.out).mono ?_
        rintro _ w2 ⟨rfl, hr2, hk2⟩
        have HR2 : Hid (Rdr w2 gr A c bs (p + (n + 1))) := Lib.hid (by rw [← Nat.add_assoc]; exact hr2)
        have HK2 := Lib.hid (HK.out.trans hk2)
        have HD2 := Lib.hid (HD.out.keeps HK2.out (fun y hy => List.mem_singleton.1 hy))
        clear hr2 hk2 HK HR HD1 HDB HRI HAT q2
        obtain ⟨sA, sc, hdb, hri, hgt, hat⟩ := HD2.out
        obtain ⟨q1, q2⟩ := hdb.syms
        have q3 := hdb.code (j := n + 1) (by omega)
        have q4 := hdb.count (j := n + 1) (by omega)
        have q5 := hdb.at (j := n + 1) (by omega)
        rw [atL_at l (n + 1) (by omega) (by omega)] at q5
        rw [show nth (lowL (lenCnt l) 16) (n + 1) = lowF (lenCnt l) (n + 1) by unfold lowL; rw [nth_map_range _ _ _ (by omega), if_pos (by omega)]] at q3
        rw [← HLn.out] at q2
        have HRI := Lib.hid hri
        clear hdb hri hat
        have hgo : Hid (decF l bs p = if 0 ≤ 2 * x + bitAt bs (p + n) - lowF (lenCnt l) (n + 1) ∧ 2 * x + bitAt bs (p + n) - lowF (lenCnt l) (n + 1) < nth (lenCnt l) (n + 1) then
            (nth (symsB l 16) ((symsB l (n + 1)).length + (2 * x + bitAt bs (p + n) - lowF (lenCnt l) (n + 1)).toNat), 0, n + 1)
          else decGo l bs p (L - (n + 1)) (n + 1) (2 * x + bitAt bs (p + n))) := by
          show _ = _
          rw [HDF.out, show L - n = (L - (n + 1)) + 1 by omega, decGo, if_pos HEND.out]
        have hsa : Hid (∀ k : Nat, (k : Int) < nth (lenCnt l) (n + 1) → (symsB l (n + 1)).length + k < (symsB l 16).length) := Lib.hid (fun k hk => (symsB_at l (n + 1) (by omega) (by omega) k hk).1)
        obtain ⟨b0, b1⟩ := bitAt_le bs (p + n)
        obtain ⟨l0, l1⟩ := lowF_small l HL.out (n + 1) (by omega)
        obtain ⟨c0, c1⟩ := lenCnt_bd l (n + 1) (by omega)
        have c2 : nth (lenCnt l) (n + 1) ≤ 288 := by have := HL.out; omega
        have hy1 : Hid (2 * x + bitAt bs (p + n) < 2 ^ (n + 1)) := by show _ < _; have := HX.out; rw [Int.pow_succ]; omega
        have hp : (2 : Int) ^ (n + 1) ≤ 32768 := by
          have : (2 : Nat) ^ (n + 1) ≤ 2 ^ 15 := Nat.pow_le_pow_right (by decide) (by omega)
          exact_mod_cast this
        have hy2 : 2 * x + bitAt bs (p + n) < 32768 := by have := hy1.out; omega
        clear hp c1 HDF
        generalize bitAt bs (p + n) = b at *
        generalize lowF (lenCnt l) (n + 1) = lo at *
        generalize nth (lenCnt l) (n + 1) = ct at *
        have e4 : Go.bits .or .i64 (x * 2) b = 2 * x + b := or_bit64 x b hx0 (by omega) ⟨b0, b1⟩
        by_cases hk0 : 0 ≤ 2 * x + b - lo
        · obtain ⟨K, hK⟩ : ∃ K : Nat, 2 * x + b - lo = K := ⟨(2 * x + b - lo).toNat, by omega⟩
          by_cases hk1 : (K : Int) < ct
          · have HRES : Hid (decF l bs p = (nth (symsB l 16) ((symsB l (n + 1)).length + K), 0, n + 1)) := by
              show _ = _
              rw [hgo.out, hK, if_pos ⟨by omega, hk1⟩, Int.toNat_natCast]
            have hin := hsa.out K hk1
            obtain ⟨sb, so, rfl, hcell⟩ := HRI.out.at hin
            have HIN := Lib.hid hin
            have d2 : decide ((K : Int) < ct) = true := by simpa using hk1
            have hS16 : (symsB l 16).length ≤ 4608 := Nat.le_trans (symsB_len l 16) (by have := HL.out; omega)
            generalize hS : (symsB l (n + 1)).length = S at *
            generalize hSS : (symsB l 16).length = SS at *
            have s1 : ((S : Int) + (K : Int)).toNat = S + K := by omega
            have s2 : (0 : Int) ≤ (S : Int) + (K : Int) := by omega
            have s3 : (S : Int) + (K : Int) < (SS : Int) := by omega
            clear hS hSS hin
            have s7 : IntKind.i64.wrap ((S : Int) + (K : Int)) = (S : Int) + (K : Int) := IntWalk.i64_in _ (by omega)
            have s4 : (0 : Int) ≤ (n : Int) + 1 := by omega
            have s5 : (n : Int) + 1 < 16 := by omega
            have s6 : ((n : Int) + 1).toNat = n + 1 := by omega
            go_wp2_with fail
            go_quiet (fail)
            go_wp2_with fail
            go_ret2
            exact nexted HRES.out (HR2.out.dr ((Keeps.refl [] w2).drewN _)) (HK2.out.drewN _)
          · have HRES : Hid (decF l bs p = decGo l bs p (L - (n + 1)) (n + 1) (2 * x + b)) := by
              show _ = _
              rw [hgo.out, hK, if_neg (fun h => hk1 h.2)]
            have d2 : decide ((K : Int) < ct) = false := by simpa using hk1
            clear hgo hsa
            go_wp2_with fail
            go_roundw
            case rel => exact ⟨n + 1, 2 * x + b, by omega, rfl, by go_num, rfl, by omega, hy2, hy1, HRES, HR2, HK2⟩
            case measure => simp [intOf]; omega
        · have HRES : Hid (decF l bs p = decGo l bs p (L - (n + 1)) (n + 1) (2 * x + b)) := by
            show _ = _
            rw [hgo.out, if_neg (fun h => hk0 h.1)]
          have d2 : decide (0 ≤ 2 * x + b - lo) = false := by simpa using hk0
          clear hgo hsa
          go_wp2_with fail
          go_roundw
          case rel => exact ⟨n + 1, 2 * x + b, by omega, rfl, by go_num, rfl, by omega, hy2, hy1, HRES, HR2, HK2⟩
          case measure => simp [intOf]; omega
      · have HEND := Lib.hid hend
        clear hend
        have HRES : Hid (decF l bs p = (0, 10, 0)) := by
          show _ = _
          rw [HDF.out, show L - n = (L - n - 1) + 1 by omega, decGo, if_neg HEND.out]
        go_wp2_with fail
        refine (take1_end _ _ _ _ _ _ HR.out (by have := HEND.out; omega)).mono ?_
        rintro _ w2 ⟨rfl, hd2⟩
        have HR2 := Lib.hid (HR.out.dr (hd2.keeps (S := [])))
        have HK2 := Lib.hid (HK.out.trans (hd2.keeps (S := [gr])))
        clear hd2
        go_wp2_with fail
        refine (back_calls _ _ _ _ _ _ n HR2.out (by omega)).mono ?_
        rintro _ w3 ⟨rfl, hr3, hk3⟩
        have HR3 := Lib.hid hr3
        have HK3 := Lib.hid (HK2.out.trans hk3)
        clear hr3 hk3
        go_wp2_with fail
        go_ret2
        exact nexted HRES.out (by have := HR3.out; rwa [Nat.add_sub_cancel] at this) HK3.out
    · obtain rfl : n = L := by omega
      have HRES : Hid (decF l bs p = (0, 32, 0)) := by show _ = _; rw [HDF.out, Nat.sub_self]; rfl
      go_wp2_with fail
      refine (back_calls _ _ _ _ _ _ n HR.out (by omega)).mono ?_
      rintro _ w3 ⟨rfl, hr3, hk3⟩
      have HR3 := Lib.hid hr3
      have HK3 := Lib.hid (HK.out.trans hk3)
      clear hr3 hk3
      go_wp2_with fail
      go_ret2
      exact nexted HRES.out (by have := HR3.out; rwa [Nat.add_sub_cancel] at this) HK3.out
theorem next_calls (w : World) (g top gr : Nat) (l : List Int) (A : Option Addr) (c : Nat) (bs : List Int) (p : Nat) (hd : DecT w g top l) (hr : Rdr w gr A c bs p) (ht : top ≤ gr) (hl : l.length ≤ 288) :
    Calls Tryd.prog 81 #[.pointer (some ⟨g, 0, none⟩), .pointer (some ⟨gr, 0, none⟩)] w (Nexted w gr A c bs p (decF l bs p)) := nextN_calls w g gr l A c bs p (hd.apart ht) hr hl
end Go.Proofs.YtcblibefmclloaaDoor
