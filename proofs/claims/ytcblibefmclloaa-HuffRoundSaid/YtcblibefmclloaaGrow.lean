/- slices.Grow of no slice, appends of whole numbers. -/
import Derived.Test.YtcblibefmclloaaBase
import Derived.Lib.AppendZerosOnto
import Derived.Laws.AppendOwnNone
import Derived.OneCell
import Derived.OwnWalk
set_option linter.unusedVariables false
set_option linter.unusedSimpArgs false
namespace Go.Proofs.Ytcblibefmclloaa
open Go.RowKit
theorem ints_one2 (k : IntKind) (xs : List Int) : ∀ v ∈ ints k xs, v.oneCell' = true := by
  intro u hu; simp only [ints, List.mem_map] at hu; obtain ⟨x, _, rfl⟩ := hu; rfl
theorem own_lo {w : World} {base : Nat} {e : TypeId} {size n : Nat} {v : Value} {xs : List Value} (h : w.ownsRow base e size v n xs) (k : Nat) (hk : v.ownBlock = some k) : base ≤ k := by
  rcases h.2 with ⟨rfl, _⟩ | ⟨g, cap, cur, rfl, hb, _⟩
  · simp [Value.ownBlock] at hk
  · have : g = k := by simpa [Value.ownBlock] using hk
    omega
theorem own_hi {w : World} {base : Nat} {e : TypeId} {size n : Nat} {v : Value} {xs : List Value} (h : w.ownsRow base e size v n xs) (k : Nat) (hk : v.ownBlock = some k) : k < w.heap.size := by
  rcases h.2 with ⟨rfl, _⟩ | ⟨g, cap, cur, rfl, hb, hh, _⟩
  · simp [Value.ownBlock] at hk
  · have : g = k := by simpa [Value.ownBlock] using hk
    subst this
    exact (Array.getElem?_eq_some_iff.1 hh).1
/-- 's = append(s, ys...)' of numbers, whatever slice the source is. -/
theorem app_ints {ops : Array Oper} {rest : List Oper} {o : Oper} {a : Act} {Q : Exit → Act → World → Prop} {w : World} (hgd : o.guard = none) (s x : Operand)
    (ho : o.op = .call { callee := .builtin .append, args := #[s, x], argTypes := #[22, 22] })
    (base : Nat) (v : Value) (n : Nat) (xs : List Int) (hs : a.eval s = v) (hown : w.ownsRow base 3 1 v n (ints .i64 xs))
    (A : Option Addr) (m c : Nat) (ys : List Int) (hx : a.eval x = .slice A m c) (hy : RI .i64 w A m ys) (hnil : A = none → m = 0 ∧ c = 0) (hpl : ∀ ad, A = some ad → ∃ b o, ad = ⟨b, o, none⟩)
    (hn : n + m ≤ 8000000000) (hbase : base ≤ w.heap.size)
    (h : ∀ v' w', w'.ownsRow base 3 1 v' (n + m) (ints .i64 (xs ++ ys)) → w.grownBy w' v.ownBlock → wpList Try.prog ops Q rest (a.put o.dst v') w') : wpList Try.prog ops Q (o :: rest) a w := by
  obtain ⟨i0, hi, hz0, hz1, hz2⟩ := info_parts info_int
  cases A with
  | none =>
    obtain ⟨rfl, rfl⟩ := hnil rfl
    obtain rfl : ys = [] := List.eq_nil_of_length_eq_zero hy.len
    refine wpList_append_own_none hgd s x 22 ho base 3 i0 1 Try.underlying22 hi v n (ints .i64 xs) hs hown hx ?_
    exact h v w (by simpa using hown) ⟨rfl, rfl, rfl, Nat.le_refl _, fun _ _ _ => rfl⟩
  | some ad =>
    obtain ⟨b, of, rfl⟩ := hpl ad rfl
    refine wpList_append_own _ hgd s x 22 ho base 3 i0 (.int .i64 0) 1 8 Try.underlying22 hi hz0 hz1 hz2 rfl (by decide) v n (ints .i64 xs) hs hown ⟨b, of, none⟩ m c (ints .i64 ys) hx (by simp [ints, hy.len]) ?_ (ints_one2 _ _) (by unfold maxLen; omega) (by omega) hbase ?_
    · intro j u hu
      have hj : j < m := by have := (List.getElem?_eq_some_iff.1 hu).1; have := hy.len; simp [ints] at *; omega
      rw [add_plain2]
      have hc := hy.cell b of rfl j hj
      rw [hc, ← hu, ints_getElem?]
      simp [nth, List.getD, show j < ys.length by have := hy.len; omega]
    · intro v' w' h2 h3 _
      have e : ints .i64 (xs ++ ys) = ints .i64 xs ++ ints .i64 ys := by simp [ints]
      rw [e] at h
      exact h v' w' h2 h3
theorem grow_run (w : World) (n : Nat) (h0 : 0 < n) (hn : n ≤ 4000000000) : ∃ c w1, (∀ ty, (Builtin.append_ #[22, 3] ty #[.slice none 0 0, .int .i64 n]).run Try.prog w = .ok (.slice (some ⟨w.heap.size, 0, none⟩) n c) w1) ∧
    (∀ base, base ≤ w.heap.size → w1.ownsRow base 3 1 (.slice (some ⟨w.heap.size, 0, none⟩) 0 c) 0 []) ∧ n ≤ c ∧ c ≤ 9223372036854775807 ∧ Below w.heap.size w w1 := by
  obtain ⟨i0, hi, hz0, hz1, hz2⟩ := info_parts info_int
  have hr := fun ty => Lib.run_append_grow_zeros w 22 3 ty 3 i0 (.int .i64 0) .i64 .i64 Try.underlying22 Try.underlying3 hi hz0 none 0 0 [] (run_firstCells_none w.drew i0.size 0 0 0) n h0 (by rw [hz1]; decide) (by omega) (by omega) (by rw [hz2]; omega) (by rw [hz2]; exact growslice_fits (by omega) (by omega))
  simp only [Nat.zero_add] at hr
  have hge := grownCap_ge w n 0 3
  have hcm := grownCap_le_maxLen w n 0 3 (by unfold maxLen; omega)
  refine ⟨_, _, hr, fun base hb => ?_, hge, by unfold maxLen at hcm; exact hcm, ?_⟩
  · refine ⟨rfl, .inr ⟨w.heap.size, _, _, rfl, hb, heap_alloc_new w.drew _, Nat.zero_le _, hcm, ?_, rfl⟩⟩
    simp [size_zeroCells, Value.cells]
    omega
  · exact ((Below.refl _ _).drew).alloc (Nat.le_refl _) _
/-- An append, its run being known. -/
theorem wpList_append_run {ops : Array Oper} {rest : List Oper} {o : Oper} {a : Act} {Q : Exit → Act → World → Prop} {w w1 : World} (hgd : o.guard = none) (s x : Operand) (t ti : TypeId)
    (ho : o.op = .call { callee := .builtin .append, args := #[s, x], argTypes := #[t, ti] }) (u y v : Value) (hs : a.eval s = u) (hx : a.eval x = y)
    (hrun : ∀ ty, (Builtin.append_ #[t, ti] ty #[u, y]).run Try.prog w = .ok v w1) (h : wpList Try.prog ops Q rest (a.put o.dst v) w1) : wpList Try.prog ops Q (o :: rest) a w := by
  refine wpList_plain hgd fun K hK => ?_
  unfold Oper.wp
  simp [execOp, ho, resolve, invoke, builtin, hs, hx, hrun, Result.andThen]
  exact hK _ _ h
set_option maxRecDepth 100000 in
set_option maxHeartbeats 1000000 in
theorem grow_calls' (w : World) (A : Option Addr) (hA : A = none) (n : Nat) (hn : n ≤ 4000000000) :
    Calls Try.prog 45 #[.slice A 0 0, .int .i64 n] w fun e w' => ∃ v, e = .returned v ∧ (∀ base, base ≤ w.heap.size → w'.ownsRow base 3 1 v 0 []) ∧ Below w.heap.size w w' := by
  have e0 : decide ((n : Int) < 0) = false := by simp
  have HA := Lib.hid hA
  clear hA
  by_cases h0 : 0 < n
  · obtain ⟨c, w1, hr, ho, hc, hc2, hb⟩ := grow_run w n h0 hn
    have e1 : decide ((0 : Int) < n) = true := by simp; omega
    have HO := Lib.hid ho
    have HB := Lib.hid hb
    have HR := Lib.hid hr
    clear ho hb hr
    go_enter Try.func45, Try.ntmps45
    go_wp2_with (with_reducible refine wpList_append_run rfl (.tmp 20) (.tmp 21) _ _ rfl (.slice A 0 0) (.int .i64 n) _ rfl rfl (by rw [HA.out]; exact HR.out) ?_)
    go_wp2
    go_ret
    exact ⟨_, rfl, HO.out, HB.out⟩
  · obtain rfl : n = 0 := by omega
    go_enter Try.func45, Try.ntmps45
    go_wp2
    go_ret
    exact ⟨_, rfl, fun base _ => by rw [HA.out]; exact World.ownsRow_nil _ _ _ _, Below.refl _ _⟩
theorem grow_calls (w : World) (n : Nat) (hn : n ≤ 4000000000) :
    Calls Try.prog 45 #[.slice none 0 0, .int .i64 n] w fun e w' => ∃ v, e = .returned v ∧ (∀ base, base ≤ w.heap.size → w'.ownsRow base 3 1 v 0 []) ∧ Below w.heap.size w w' := grow_calls' w none rfl n hn
end Go.Proofs.Ytcblibefmclloaa
