import Derived.Test.YtcblibefmclloaaDoorRepeat
import Derived.Test.YtcblibefmclloaaDoorPack1
import Derived.Test.YtcblibefmclloaaDoorMAdd
import Derived.Deep.Onto
set_option linter.unusedVariables false
set_option linter.unusedSimpArgs false
namespace Go.Proofs.YtcblibefmclloaaDoor
open Go.RowKit
/-- 's = append(s, ys...)' of numbers, on a row of one's own. -/
theorem app_ints {ops : Array Oper} {rest : List Oper} {o : Oper} {a : Act} {Q : Exit → Act → World → Prop} {w : World} (hgd : o.guard = none) (s x : Operand)
    (ho : o.op = .call { callee := .builtin .append, args := #[s, x], argTypes := #[22, 22] })
    (base : Nat) (v : Value) (n : Nat) (xs : List Int) (hs : a.eval s = v) (hown : w.ownsRow base 3 1 v n (ints .i64 xs))
    (g m c : Nat) (ys : List Int) (hx : a.eval x = .slice (some ⟨g, 0, none⟩) m c) (hy : RI .i64 w (some ⟨g, 0, none⟩) m ys)
    (hn : n + m ≤ 1000000) (hbase : base ≤ w.heap.size)
    (h : ∀ v' w', w'.ownsRow base 3 1 v' (n + m) (ints .i64 (xs ++ ys)) → w.grownBy w' v.ownBlock → wpList Tryd.prog ops Q rest (a.put o.dst v') w') : wpList Tryd.prog ops Q (o :: rest) a w := by
  obtain ⟨i0, hi, hz0, hz1, hz2⟩ := info_parts info_int
  refine wpList_append_own _ hgd s x 22 ho base 3 i0 (.int .i64 0) 1 8 Tryd.underlying22 hi hz0 hz1 hz2 rfl (by decide) v n (ints .i64 xs) hs hown ⟨g, 0, none⟩ m c (ints .i64 ys) hx (by simp [ints, hy.len]) ?_ (ints_one _ _) (by unfold maxLen; omega) (by omega) hbase ?_
  · intro j u hu
    have hj : j < m := by have := (List.getElem?_eq_some_iff.1 hu).1; have := hy.len; simp [ints] at *; omega
    rw [add_plain]
    have hc := hy.cell g 0 rfl j hj
    rw [Nat.zero_add] at hc
    rw [hc, ← hu, ints_getElem?]
    simp [nth, List.getD, show j < ys.length by have := hy.len; omega]
  · intro v' w' h2 h3 _
    have e : ints .i64 (xs ++ ys) = ints .i64 xs ++ ints .i64 ys := by simp [ints]
    rw [e] at h
    exact h v' w' h2 h3
/-- What adding a step answers. -/
def Added (w : World) (base : Nat) (r : Option (List Int)) (e : Ending) (w' : World) : Prop :=
  match r with
  | some l => ∃ v, e = .returned (.tuple #[v, .bool true]) ∧ w'.ownsRow base 3 1 v l.length (ints .i64 l) ∧ Below base w w'
  | none => e = .returned (.tuple #[.slice none 0 0, .bool false]) ∧ Below base w w'
set_option maxRecDepth 100000 in
set_option maxHeartbeats 1000000 in
theorem add_bad (w : World) (base len c : Nat) (A : Option Addr) (l : List Int) (sym extra n : Int) (hb : base ≤ w.heap.size) (hs : sym < 0 ∨ 18 < sym) :
    Calls Tryd.prog 56 #[.slice A len c, .agg #[.int .i64 sym, .int .i64 extra], .int .i64 n] w (Added w base (addF l sym extra n)) := by
  have hr : addF l sym extra n = none := addF_none (by rcases hs with h | h; exact sayF_lit_none (by omega) (Or.inl h); exact sayF_big h)
  rw [hr]
  clear hr
  rcases hs with h | h
  · have e1 : decide (sym < 0) = true := by simpa using h
    go_enter Tryd.func56, Tryd.ntmps56
    go_wp2_with fail
    go_quiet (fail)
    go_wp2_with fail
    go_ret2
    exact ⟨rfl, (((Keeps.refl [] w).alloc _).drewN _).below.mono hb⟩
  · have e1 : decide (sym < 0) = false := by simp; omega
    have e2 : decide (19 ≤ sym) = true := by simp; omega
    go_enter Tryd.func56, Tryd.ntmps56
    go_wp2_with fail
    go_quiet (fail)
    go_wp2_with fail
    go_ret2
    exact ⟨rfl, (((Keeps.refl [] w).alloc _).drewN _).below.mono hb⟩
set_option maxRecDepth 100000 in
set_option maxHeartbeats 1000000 in
theorem add_neg (w : World) (base len c : Nat) (A : Option Addr) (l : List Int) (sym extra n : Int) (hb : base ≤ w.heap.size) (h0 : 0 ≤ sym) (h18 : sym ≤ 18) (hs : extra < 0) :
    Calls Tryd.prog 56 #[.slice A len c, .agg #[.int .i64 sym, .int .i64 extra], .int .i64 n] w (Added w base (addF l sym extra n)) := by
  have hr : addF l sym extra n = none := addF_none (by
    rcases (by omega : sym ≤ 15 ∨ sym = 16 ∨ sym = 17 ∨ sym = 18) with h | rfl | rfl | rfl
    · exact sayF_lit_none (by omega) (Or.inr (by omega))
    · exact sayF_16_none (Or.inl hs)
    · exact sayF_17_none (Or.inl hs)
    · exact sayF_18_none (Or.inl hs))
  rw [hr]
  clear hr
  have e1 : decide (sym < 0) = false := by simp; omega
  have e2 : decide (19 ≤ sym) = false := by simp; omega
  have e3 : decide (extra < 0) = true := by simpa using hs
  go_enter Tryd.func56, Tryd.ntmps56
  go_wp2_with fail
  go_quiet (fail)
  go_wp2_with fail
  go_ret2
  exact ⟨rfl, (((Keeps.refl [] w).alloc _).drewN _).below.mono hb⟩
/-- Of literal lengths: no more is said. -/
theorem wide0 (s : Nat) (h : s ≤ 15) : nth wideL s = 0 := by
  rcases (by omega : s = 0 ∨ s = 1 ∨ s = 2 ∨ s = 3 ∨ s = 4 ∨ s = 5 ∨ s = 6 ∨ s = 7 ∨ s = 8 ∨ s = 9 ∨ s = 10 ∨ s = 11 ∨ s = 12 ∨ s = 13 ∨ s = 14 ∨ s = 15) with rfl | rfl | rfl | rfl | rfl | rfl | rfl | rfl | rfl | rfl | rfl | rfl | rfl | rfl | rfl | rfl <;> rfl
set_option maxRecDepth 100000 in
set_option maxHeartbeats 1000000 in
theorem add_over (w : World) (base len c : Nat) (A : Option Addr) (l : List Int) (s : Nat) (extra n : Int) (hb : base ≤ w.heap.size) (ht : Tabs w) (h0 : 0 ≤ extra)
    (hs : s ≤ 15 ∧ 1 ≤ extra ∨ s = 16 ∧ 4 ≤ extra ∨ s = 17 ∧ 8 ≤ extra ∨ s = 18 ∧ 128 ≤ extra) :
    Calls Tryd.prog 56 #[.slice A len c, .agg #[.int .i64 s, .int .i64 extra], .int .i64 n] w (Added w base (addF l s extra n)) := by
  have e1 : decide ((s : Int) < 0) = false := by simp
  have e2 : decide (19 ≤ (s : Int)) = false := by simp; omega
  have e3 : decide (extra < 0) = false := by simp; omega
  have hl : (s : Int) < 19 := by omega
  have hc := ht.wid.cell _ _ rfl s (by omega)
  rw [Nat.zero_add] at hc
  clear ht
  rcases hs with ⟨h, hs⟩ | ⟨rfl, hs⟩ | ⟨rfl, hs⟩ | ⟨rfl, hs⟩
  · have hr : addF l s extra n = none := addF_none (sayF_lit_none (by omega) (Or.inr (by omega)))
    rw [hr]
    clear hr
    rw [wide0 s h] at hc
    have hc' := fun o => ((Keeps.refl [] w).alloc o).cell (by simp) hc
    clear hc
    have e4 : decide (1 ≤ extra) = true := by simpa using hs
    go_enter Tryd.func56, Tryd.ntmps56
    go_wp2_with fail
    go_quiet (fail)
    go_wp2_with fail
    go_ret2
    exact ⟨rfl, (((Keeps.refl [] w).alloc _).drewN _).below.mono hb⟩
  · have hr : addF l ((16 : Nat) : Int) extra n = none := addF_none (sayF_16_none (Or.inr (Or.inl (by omega))))
    rw [hr]
    clear hr
    rw [show nth wideL 16 = 2 from rfl] at hc
    have hc' := fun o => ((Keeps.refl [] w).alloc o).cell (by simp) hc
    clear hc
    have e4 : decide (4 ≤ extra) = true := by simpa using hs
    go_enter Tryd.func56, Tryd.ntmps56
    go_wp2_with fail
    go_quiet (fail)
    go_wp2_with fail
    go_ret2
    exact ⟨rfl, (((Keeps.refl [] w).alloc _).drewN _).below.mono hb⟩
  · have hr : addF l ((17 : Nat) : Int) extra n = none := addF_none (sayF_17_none (Or.inr (by omega)))
    rw [hr]
    clear hr
    rw [show nth wideL 17 = 3 from rfl] at hc
    have hc' := fun o => ((Keeps.refl [] w).alloc o).cell (by simp) hc
    clear hc
    have e4 : decide (8 ≤ extra) = true := by simpa using hs
    go_enter Tryd.func56, Tryd.ntmps56
    go_wp2_with fail
    go_quiet (fail)
    go_wp2_with fail
    go_ret2
    exact ⟨rfl, (((Keeps.refl [] w).alloc _).drewN _).below.mono hb⟩
  · have hr : addF l ((18 : Nat) : Int) extra n = none := addF_none (sayF_18_none (Or.inr (by omega)))
    rw [hr]
    clear hr
    rw [show nth wideL 18 = 7 from rfl] at hc
    have hc' := fun o => ((Keeps.refl [] w).alloc o).cell (by simp) hc
    clear hc
    have e4 : decide (128 ≤ extra) = true := by simpa using hs
    go_enter Tryd.func56, Tryd.ntmps56
    go_wp2_with fail
    go_quiet (fail)
    go_wp2_with fail
    go_ret2
    exact ⟨rfl, (((Keeps.refl [] w).alloc _).drewN _).below.mono hb⟩
set_option maxRecDepth 100000 in
set_option maxHeartbeats 1000000 in
/-- '16' with nothing to say again. -/
theorem add_first (w : World) (base c : Nat) (A : Option Addr) (extra n : Int) (hb : base ≤ w.heap.size) (ht : Tabs w) (h0 : 0 ≤ extra) (h3 : extra ≤ 3) :
    Calls Tryd.prog 56 #[.slice A 0 c, .agg #[.int .i64 16, .int .i64 extra], .int .i64 n] w (Added w base (addF [] 16 extra n)) := by
  have hr : addF [] 16 extra n = none := addF_none (sayF_16_none (Or.inr (Or.inr rfl)))
  rw [hr]
  clear hr
  have e3 : decide (extra < 0) = false := by simp; omega
  have e4 : decide (4 ≤ extra) = false := by simp; omega
  have hc := ht.wid.cell _ _ rfl 16 (by omega)
  rw [Nat.zero_add, show nth wideL 16 = 2 from rfl] at hc
  have hd := ht.fro.cell _ _ rfl 16 (by omega)
  rw [Nat.zero_add, show nth fromL 16 = 3 from rfl] at hd
  have hc' := fun o => ((Keeps.refl [] w).alloc o).cell (by simp) hc
  have hd' := fun o => ((Keeps.refl [] w).alloc o).cell (by simp) hd
  have e2 : IntKind.i64.wrap (3 + extra) = 3 + extra := IntWalk.i64_in _ (by omega)
  clear hc hd ht
  go_enter Tryd.func56, Tryd.ntmps56
  go_wp2_with fail
  go_quiet (fail)
  go_wp2_with fail
  go_quiet (fail)
  go_wp2_with fail
  go_ret2
  exact ⟨rfl, (((Keeps.refl [] w).alloc _).drewN _).below.mono hb⟩
end Go.Proofs.YtcblibefmclloaaDoor
