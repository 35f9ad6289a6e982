import Derived.Test.YtkpabdjniiepkaaGreatDoorDflA
import Derived.Test.YtkpabdjniiepkaaGreatDoorDflC
import Derived.Test.YtkpabdjniiepkaaGreatDoorDflH
import Derived.Deep.Onto
import Derived.Laws.AppendOwnNone
import Derived.Test.YtkpabdjniiepkaaGreatDoorDflG
import Derived.Test.YtkpabdjniiepkaaGreatDoorDflI
import Derived.Deep.LoopGhost
import Derived.Test.YtkpabdjniiepkaaGreatDoorDflB
import Derived.Outline
set_option linter.unusedVariables false
set_option linter.unusedSimpArgs false
namespace Go.Proofs.YtkpabdjniiepkaaGreatDoor
open Go.RowKit
def saidV : Option (Int × Nat) → Value
  | some (v, k) => .tuple #[.int .i64 v, .int .i64 k, .bool true]
  | none => .tuple #[.int .i64 0, .int .i64 0, .bool false]
theorem saidV_none {r : Option (Int × Nat)} (h : r = none) : Ending.returned (.tuple #[.int .i64 0, .int .i64 0, .bool false]) = .returned (saidV r) := by rw [h]; rfl
theorem saidV_some {r : Option (Int × Nat)} {v ki : Int} {k : Nat} (h : r = some (v, k)) (hk : ki = k) : Ending.returned (.tuple #[.int .i64 v, .int .i64 ki, .bool true]) = .returned (saidV r) := by rw [h, hk]; rfl
end Go.Proofs.YtkpabdjniiepkaaGreatDoor

set_option linter.unusedVariables false
set_option linter.unusedSimpArgs false
namespace Go.Proofs.YtkpabdjniiepkaaGreatDoor
open Go.RowKit
/-- 's = append(s, ys...)' of numbers, on a row of one's own. -/
theorem app_ints {ops : Array Oper} {rest : List Oper} {o : Oper} {a : Act} {Q : Exit → Act → World → Prop} {w : World} (hgd : o.guard = none) (s x : Operand)
    (ho : o.op = .call { callee := .builtin .append, args := #[s, x], argTypes := #[23, 23] })
    (base : Nat) (v : Value) (n : Nat) (xs : List Int) (hs : a.eval s = v) (hown : w.ownsRow base 3 1 v n (ints .i64 xs))
    (g m c : Nat) (ys : List Int) (hx : a.eval x = .slice (some ⟨g, 0, none⟩) m c) (hy : RI .i64 w (some ⟨g, 0, none⟩) m ys)
    (hn : n + m ≤ 1000000) (hbase : base ≤ w.heap.size)
    (h : ∀ v' w', w'.ownsRow base 3 1 v' (n + m) (ints .i64 (xs ++ ys)) → w.grownBy w' v.ownBlock → wpList Tryz.prog ops Q rest (a.put o.dst v') w') : wpList Tryz.prog ops Q (o :: rest) a w := by
  obtain ⟨i0, hi, hz0, hz1, hz2⟩ := info_parts info_int
  refine wpList_append_own _ hgd s x 23 ho base 3 i0 (.int .i64 0) 1 8 Tryz.underlying23 hi hz0 hz1 hz2 rfl (by decide) v n (ints .i64 xs) hs hown ⟨g, 0, none⟩ m c (ints .i64 ys) hx (by simp [ints, hy.len]) ?_ (ints_one _ _) (by unfold maxLen; omega) (by omega) hbase ?_
  · intro j u hu
    have hj : j < m := by have := (List.getElem?_eq_some_iff.1 hu).1; have := hy.len; simp [ints] at *; omega
    rw [add_plain]
    have hc := hy.cell g 0 rfl j hj
    rw [Nat.zero_add] at hc
    rw [hc, ← hu, ints_getElem?]
    simp [nth, List.getD, show j < ys.length by have := hy.len; omega]
  · intro v' w' h2 h3 _
    have e : ints .i64 (xs ++ ys) = ints .i64 xs ++ ints .i64 ys := by simp [ints]
    rw [e] at h
    exact h v' w' h2 h3
/-- What adding a step answers. -/
def Added (w : World) (base : Nat) (r : Option (List Int)) (e : Ending) (w' : World) : Prop :=
  match r with
  | some l => ∃ v, e = .returned (.tuple #[v, .bool true]) ∧ w'.ownsRow base 3 1 v l.length (ints .i64 l) ∧ Below base w w'
  | none => e = .returned (.tuple #[.slice none 0 0, .bool false]) ∧ Below base w w'
set_option maxRecDepth 100000 in
set_option maxHeartbeats 1000000 in
theorem add_bad (w : World) (base len c : Nat) (A : Option Addr) (l : List Int) (sym extra n : Int) (hb : base ≤ w.heap.size) (hs : sym < 0 ∨ 18 < sym) :
    Calls Tryz.prog 114 #[.slice A len c, .agg #[.int .i64 sym, .int .i64 extra], .int .i64 n] w (Added w base (addF l sym extra n)) := by
  have hr : addF l sym extra n = none := addF_none (by rcases hs with h | h; exact sayF_lit_none (by omega) (Or.inl h); exact sayF_big h)
  rw [hr]
  clear hr
  rcases hs with h | h
  · have e1 : decide (sym < 0) = true := by simpa using h
    go_enter Tryz.func114, Tryz.ntmps114
    go_wp2_with fail
    go_quiet (fail)
    go_wp2_with fail
    go_ret2
    exact ⟨rfl, (((Keeps.refl [] w).alloc _).drewN _).below.mono hb⟩
  · have e1 : decide (sym < 0) = false := by simp; omega
    have e2 : decide (19 ≤ sym) = true := by simp; omega
    go_enter Tryz.func114, Tryz.ntmps114
    go_wp2_with fail
    go_quiet (fail)
    go_wp2_with fail
    go_ret2
    exact ⟨rfl, (((Keeps.refl [] w).alloc _).drewN _).below.mono hb⟩
set_option maxRecDepth 100000 in
set_option maxHeartbeats 1000000 in
theorem add_neg (w : World) (base len c : Nat) (A : Option Addr) (l : List Int) (sym extra n : Int) (hb : base ≤ w.heap.size) (h0 : 0 ≤ sym) (h18 : sym ≤ 18) (hs : extra < 0) :
    Calls Tryz.prog 114 #[.slice A len c, .agg #[.int .i64 sym, .int .i64 extra], .int .i64 n] w (Added w base (addF l sym extra n)) := by
  have hr : addF l sym extra n = none := addF_none (by
    rcases (by omega : sym ≤ 15 ∨ sym = 16 ∨ sym = 17 ∨ sym = 18) with h | rfl | rfl | rfl
    · exact sayF_lit_none (by omega) (Or.inr (by omega))
    · exact sayF_16_none (Or.inl hs)
    · exact sayF_17_none (Or.inl hs)
    · exact sayF_18_none (Or.inl hs))
  rw [hr]
  clear hr
  have e1 : decide (sym < 0) = false := by simp; omega
  have e2 : decide (19 ≤ sym) = false := by simp; omega
  have e3 : decide (extra < 0) = true := by simpa using hs
  go_enter Tryz.func114, Tryz.ntmps114
  go_wp2_with fail
  go_quiet (fail)
  go_wp2_with fail
  go_ret2
  exact ⟨rfl, (((Keeps.refl [] w).alloc _).drewN _).below.mono hb⟩
/-- Of literal lengths: no more is said. -/
theorem wide0 (s : Nat) (h : s ≤ 15) : nth wideL s = 0 := by
  rcases (by omega : s = 0 ∨ s = 1 ∨ s = 2 ∨ s = 3 ∨ s = 4 ∨ s = 5 ∨ s = 6 ∨ s = 7 ∨ s = 8 ∨ s = 9 ∨ s = 10 ∨ s = 11 ∨ s = 12 ∨ s = 13 ∨ s = 14 ∨ s = 15) with rfl | rfl | rfl | rfl | rfl | rfl | rfl | rfl | rfl | rfl | rfl | rfl | rfl | rfl | rfl | rfl <;> rfl
set_option maxRecDepth 100000 in
set_option maxHeartbeats 1000000 in
theorem add_over (w : World) (base len c : Nat) (A : Option Addr) (l : List Int) (s : Nat) (extra n : Int) (hb : base ≤ w.heap.size) (ht : Tabs w) (h0 : 0 ≤ extra)
    (hs : s ≤ 15 ∧ 1 ≤ extra ∨ s = 16 ∧ 4 ≤ extra ∨ s = 17 ∧ 8 ≤ extra ∨ s = 18 ∧ 128 ≤ extra) :
    Calls Tryz.prog 114 #[.slice A len c, .agg #[.int .i64 s, .int .i64 extra], .int .i64 n] w (Added w base (addF l s extra n)) := by
  have e1 : decide ((s : Int) < 0) = false := by simp
  have e2 : decide (19 ≤ (s : Int)) = false := by simp; omega
  have e3 : decide (extra < 0) = false := by simp; omega
  have hl : (s : Int) < 19 := by omega
  have hc := ht.wid.cell _ _ rfl s (by omega)
  rw [Nat.zero_add] at hc
  clear ht
  rcases hs with ⟨h, hs⟩ | ⟨rfl, hs⟩ | ⟨rfl, hs⟩ | ⟨rfl, hs⟩
  · have hr : addF l s extra n = none := addF_none (sayF_lit_none (by omega) (Or.inr (by omega)))
    rw [hr]
    clear hr
    rw [wide0 s h] at hc
    have hc' := fun o => ((Keeps.refl [] w).alloc o).cell (by simp) hc
    clear hc
    have e4 : decide (1 ≤ extra) = true := by simpa using hs
    go_enter Tryz.func114, Tryz.ntmps114
    go_wp2_with fail
    go_quiet (fail)
    go_wp2_with fail
    go_ret2
    exact ⟨rfl, (((Keeps.refl [] w).alloc _).drewN _).below.mono hb⟩
  · have hr : addF l ((16 : Nat) : Int) extra n = none := addF_none (sayF_16_none (Or.inr (Or.inl (by omega))))
    rw [hr]
    clear hr
    rw [show nth wideL 16 = 2 from rfl] at hc
    have hc' := fun o => ((Keeps.refl [] w).alloc o).cell (by simp) hc
    clear hc
    have e4 : decide (4 ≤ extra) = true := by simpa using hs
    go_enter Tryz.func114, Tryz.ntmps114
    go_wp2_with fail
    go_quiet (fail)
    go_wp2_with fail
    go_ret2
    exact ⟨rfl, (((Keeps.refl [] w).alloc _).drewN _).below.mono hb⟩
  · have hr : addF l ((17 : Nat) : Int) extra n = none := addF_none (sayF_17_none (Or.inr (by omega)))
    rw [hr]
    clear hr
    rw [show nth wideL 17 = 3 from rfl] at hc
    have hc' := fun o => ((Keeps.refl [] w).alloc o).cell (by simp) hc
    clear hc
    have e4 : decide (8 ≤ extra) = true := by simpa using hs
    go_enter Tryz.func114, Tryz.ntmps114
    go_wp2_with fail
    go_quiet (fail)
    go_wp2_with fail
    go_ret2
    exact ⟨rfl, (((Keeps.refl [] w).alloc _).drewN _).below.mono hb⟩
  · have hr : addF l ((18 : Nat) : Int) extra n = none := addF_none (sayF_18_none (Or.inr (by omega)))
    rw [hr]
    clear hr
    rw [show nth wideL 18 = 7 from rfl] at hc
    have hc' := fun o => ((Keeps.refl [] w).alloc o).cell (by simp) hc
    clear hc
    have e4 : decide (128 ≤ extra) = true := by simpa using hs
    go_enter Tryz.func114, Tryz.ntmps114
    go_wp2_with fail
    go_quiet (fail)
    go_wp2_with fail
    go_ret2
    exact ⟨rfl, (((Keeps.refl [] w).alloc _).drewN _).below.mono hb⟩
set_option maxRecDepth 100000 in
set_option maxHeartbeats 1000000 in
/-- '16' with nothing to say again. -/
theorem add_first (w : World) (base c : Nat) (A : Option Addr) (extra n : Int) (hb : base ≤ w.heap.size) (ht : Tabs w) (h0 : 0 ≤ extra) (h3 : extra ≤ 3) :
    Calls Tryz.prog 114 #[.slice A 0 c, .agg #[.int .i64 16, .int .i64 extra], .int .i64 n] w (Added w base (addF [] 16 extra n)) := by
  have hr : addF [] 16 extra n = none := addF_none (sayF_16_none (Or.inr (Or.inr rfl)))
  rw [hr]
  clear hr
  have e3 : decide (extra < 0) = false := by simp; omega
  have e4 : decide (4 ≤ extra) = false := by simp; omega
  have hc := ht.wid.cell _ _ rfl 16 (by omega)
  rw [Nat.zero_add, show nth wideL 16 = 2 from rfl] at hc
  have hd := ht.fro.cell _ _ rfl 16 (by omega)
  rw [Nat.zero_add, show nth fromL 16 = 3 from rfl] at hd
  have hc' := fun o => ((Keeps.refl [] w).alloc o).cell (by simp) hc
  have hd' := fun o => ((Keeps.refl [] w).alloc o).cell (by simp) hd
  have e2 : IntKind.i64.wrap (3 + extra) = 3 + extra := IntWalk.i64_in _ (by omega)
  clear hc hd ht
  go_enter Tryz.func114, Tryz.ntmps114
  go_wp2_with fail
  go_quiet (fail)
  go_wp2_with fail
  go_quiet (fail)
  go_wp2_with fail
  go_ret2
  exact ⟨rfl, (((Keeps.refl [] w).alloc _).drewN _).below.mono hb⟩
end Go.Proofs.YtkpabdjniiepkaaGreatDoor

set_option linter.unusedVariables false
set_option linter.unusedSimpArgs false
namespace Go.Proofs.YtkpabdjniiepkaaGreatDoor
open Go.RowKit
/-- 's = append(s, ys...)' of numbers, whatever slice the source is. -/
theorem app_any {ops : Array Oper} {rest : List Oper} {o : Oper} {a : Act} {Q : Exit → Act → World → Prop} {w : World} (hgd : o.guard = none) (s x : Operand)
    (ho : o.op = .call { callee := .builtin .append, args := #[s, x], argTypes := #[23, 23] })
    (base : Nat) (v : Value) (n : Nat) (xs : List Int) (hs : a.eval s = v) (hown : w.ownsRow base 3 1 v n (ints .i64 xs))
    (A : Option Addr) (m c : Nat) (ys : List Int) (hx : a.eval x = .slice A m c) (hy : RI .i64 w A m ys) (hnil : A = none → m = 0 ∧ c = 0) (hpl : ∀ ad, A = some ad → ∃ b o, ad = ⟨b, o, none⟩)
    (hn : n + m ≤ 1000000) (hbase : base ≤ w.heap.size)
    (h : ∀ v' w', w'.ownsRow base 3 1 v' (n + m) (ints .i64 (xs ++ ys)) → w.grownBy w' v.ownBlock → wpList Tryz.prog ops Q rest (a.put o.dst v') w') : wpList Tryz.prog ops Q (o :: rest) a w := by
  obtain ⟨i0, hi, hz0, hz1, hz2⟩ := info_parts info_int
  cases A with
  | none =>
    obtain ⟨rfl, rfl⟩ := hnil rfl
    obtain rfl : ys = [] := List.eq_nil_of_length_eq_zero hy.len
    refine wpList_append_own_none hgd s x 23 ho base 3 i0 1 Tryz.underlying23 hi v n (ints .i64 xs) hs hown hx ?_
    exact h v w (by simpa using hown) ⟨rfl, rfl, rfl, Nat.le_refl _, fun _ _ _ => rfl⟩
  | some ad =>
    obtain ⟨b, of, rfl⟩ := hpl ad rfl
    refine wpList_append_own _ hgd s x 23 ho base 3 i0 (.int .i64 0) 1 8 Tryz.underlying23 hi hz0 hz1 hz2 rfl (by decide) v n (ints .i64 xs) hs hown ⟨b, of, none⟩ m c (ints .i64 ys) hx (by simp [ints, hy.len]) ?_ (ints_one _ _) (by unfold maxLen; omega) (by omega) hbase ?_
    · intro j u hu
      have hj : j < m := by have := (List.getElem?_eq_some_iff.1 hu).1; have := hy.len; simp [ints] at *; omega
      rw [add_plain2]
      have hc := hy.cell b of rfl j hj
      rw [hc, ← hu, ints_getElem?]
      simp [nth, List.getD, show j < ys.length by have := hy.len; omega]
    · intro v' w' h2 h3 _
      have e : ints .i64 (xs ++ ys) = ints .i64 xs ++ ints .i64 ys := by simp [ints]
      rw [e] at h
      exact h v' w' h2 h3
/-- What adding a step answers by the document. -/
def WithV (w : World) (r : Option (List Int)) (e : Ending) (w' : World) : Prop :=
  match r with
  | some l => ∃ v, e = .returned (.tuple #[v, .int .i64 0]) ∧ w'.ownsRow w.heap.size 3 1 v l.length (ints .i64 l) ∧ Below w.heap.size w w'
  | none => e = .returned (.tuple #[.slice none 0 0, .int .i64 41]) ∧ Below w.heap.size w w'
theorem new_ri (w : World) (t : TypeId) (v : Int) : RI .i64 (w.alloc (.cells #[.int .i64 v] t)) (some ⟨w.heap.size, 0, none⟩) 1 [v] := by
  have h : Blk (w.alloc (.cells (ints .i64 [v]).toArray t (0, 0))) w.heap.size t (ints .i64 ([v] ++ [])) := blk_new w t _
  exact h.ri
end Go.Proofs.YtkpabdjniiepkaaGreatDoor

set_option linter.unusedVariables false
set_option linter.unusedSimpArgs false
namespace Go.Proofs.YtkpabdjniiepkaaGreatDoor
open Go.RowKit
theorem any_iff (l : List Int) : anyUsed l = true ↔ ∃ j, j < l.length ∧ 0 < nth l j := by
  unfold anyUsed
  rw [List.any_eq_true]
  constructor
  · rintro ⟨x, hx, h⟩
    obtain ⟨j, hj, rfl⟩ := List.getElem_of_mem hx
    exact ⟨j, hj, by rw [nth_lt hj]; simpa using h⟩
  · rintro ⟨j, hj, h⟩
    exact ⟨l[j], List.getElem_mem _, by rw [nth_lt hj] at h; simpa using h⟩
/-- The greatest of some numbers: is it above 0? -/
def MaxP (w : World) (l : List Int) (e : Ending) (w' : World) : Prop := ∃ m : Int, e = .returned (.int .i64 m) ∧ decide (0 < m) = anyUsed l ∧ Dr w w'
theorem max_done {w w' : World} {l : List Int} {m : Int} (h : 0 < m ↔ ∃ j, j < l.length ∧ 0 < nth l j) (hd : Dr w w') : MaxP w l (.returned (.int .i64 m)) w' := by
  refine ⟨m, rfl, ?_, hd⟩
  rw [Bool.eq_iff_iff, any_iff, decide_eq_true_iff]
  exact h
set_option maxRecDepth 100000 in
set_option maxHeartbeats 400000 in
theorem max_calls (w : World) (A : Option Addr) (n c : Nat) (l : List Int) (hl : RI .i64 w A n l) (h1 : 1 ≤ n) (hn : n ≤ 140737488355328) :
    Calls Tryz.prog 106 #[.slice A n c] w (MaxP w l) := by
  have HL := Lib.hid hl
  have HLL := Lib.hid hl.len
  obtain ⟨b, o, rfl, hc0⟩ := hl.at (show 0 < n by omega)
  rw [Nat.add_zero] at hc0
  clear hl
  have e0 : decide (n < 1) = false := by simp; omega
  have e0' : decide ((n : Int) < 1) = false := by simp; omega
  go_enter Tryz.func106, Tryz.ntmps106
  go_wp2_with fail
  clear hc0 e0 e0'
  go_loopw [3, 4] (fun mv iv wr => ∃ (m : Int) (k : Nat), 1 ≤ k ∧ k ≤ n ∧ iv = .int .i64 k ∧ mv = .int .i64 m ∧ Hid (0 < m ↔ ∃ j, j < k ∧ 0 < nth l j) ∧ Hid (Dr w wr)) (fun _ iv _ => n - (intOf iv).toNat)
  case atStart => exact ⟨nth l 0, 1, by omega, by omega, rfl, rfl, Lib.hid ⟨fun h => ⟨0, by omega, h⟩, fun ⟨j, hj, h⟩ => by rwa [show j = 0 by omega] at h⟩, Lib.hid (Dr.refl w)⟩
  case round =>
    obtain ⟨m, k, hk1, hk, rfl, rfl, HM, HD⟩ := hrel
    by_cases hlt : k < n
    · have e1 : decide (k < n) = true := by simpa using hlt
      have hc := (HL.out.keeps (HD.out.keeps (S := [])) (off_nil _)).cell b o rfl k hlt
      obtain ⟨x, hx⟩ : ∃ x, x = nth l k := ⟨_, rfl⟩
      have HX := Lib.hid hx
      rw [← hx] at hc
      clear hx
      go_wp2_with fail
      go_roundw
      case rel =>
        refine ⟨_, k + 1, by omega, by omega, by go_num, rfl, Lib.hid ?_, HD⟩
        constructor
        · intro h
          by_cases hm : 0 < m
          · obtain ⟨j, hj, h2⟩ := HM.out.1 hm
            exact ⟨j, by omega, h2⟩
          · exact ⟨k, by omega, by rw [← HX.out]; first | omega | (split at h <;> omega)⟩
        · rintro ⟨j, hj, h2⟩
          by_cases hjk : j = k
          · subst hjk; rw [← HX.out] at h2; first | omega | (split <;> omega)
          · have := HM.out.2 ⟨j, by omega, h2⟩; first | omega | (split <;> omega)
      case measure => simp [intOf]; omega
    · obtain rfl : k = n := by omega
      have e1 : decide (k < k) = false := by simp
      go_wp2_with fail
      go_ret
      exact max_done (by rw [HLL.out]; exact HM.out) HD.out
set_option maxRecDepth 100000 in
theorem iused_calls (w : World) (A : Option Addr) (n c : Nat) (l : List Int) (hl : RI .i64 w A n l) (h1 : 1 ≤ n) (hn : n ≤ 140737488355328) :
    Calls Tryz.prog 92 #[.slice A n c] w fun e w' => e = .returned (.bool (anyUsed l)) ∧ Dr w w' := by
  have HL := Lib.hid hl
  clear hl
  go_enter Tryz.func92, Tryz.ntmps92
  go_wp2_with fail
  refine (max_calls w A n c l HL.out h1 hn).mono ?_
  rintro _ w1 ⟨m, rfl, hm, hd⟩
  have HD := Lib.hid hd
  clear hd
  have HM := Lib.hid hm
  clear hm
  go_wp2_with fail
  go_ret
  rw [HM.out]
  exact ⟨rfl, HD.out⟩
/-! The lists of kind 1. -/
def fixGo (k : Nat) : Int := if k < 144 ∨ 279 < k then 8 else if k < 256 then 9 else 7
def fixL (n : Nat) : List Int := (List.range n).map fixGo
theorem fixL_succ (n : Nat) : fixL (n + 1) = fixL n ++ [fixGo n] := by unfold fixL; rw [List.range_succ]; simp
theorem fixL_len (n : Nat) : (fixL n).length = n := by simp [fixL]
theorem fixL_all : fixL 288 = fixLit := by decide +kernel
theorem fix_info : checkF fixLit = 0 ∧ checkF fixDist = 0 ∧ anyUsed fixDist = true ∧ fixLit.length = 288 ∧ fixDist.length = 32 := by decide +kernel
set_option maxRecDepth 100000 in
set_option maxHeartbeats 1000000 in
theorem fixed_calls (w : World) : Calls Tryz.prog 62 #[] w fun e w' => ∃ v1 g2, e = .returned (.tuple #[v1, .slice (some ⟨g2, 0, none⟩) 32 32]) ∧ w'.ownsRow w.heap.size 3 1 v1 288 (ints .i64 fixLit) ∧ Blk w' g2 3 (ints .i64 fixDist) ∧ w.heap.size ≤ g2 ∧ Below w.heap.size w w' := by
  go_enter Tryz.func62, Tryz.ntmps62
  go_wp2_with fail
  go_loopw [0, 3] (fun u i wr => ∃ k : Nat, k ≤ 288 ∧ i = .int .i64 k ∧ Hid (wr.ownsRow w.heap.size 3 1 u k (ints .i64 (fixL k))) ∧ Hid (Below w.heap.size w wr)) (fun _ i _ => 288 - (intOf i).toNat)
  case atStart => exact ⟨0, by omega, rfl, Lib.hid (World.ownsRow_nil _ _ _ _), Below.refl _ _⟩
  case round =>
    obtain ⟨k, hk, rfl, HO, HW⟩ := hrel
    have hsz := HW.out.size
    by_cases hlt : k < 288
    · have e0 : decide ((k : Int) < 288) = true := by simp; omega
      have fin : ∀ x, fixGo k = x → ∀ (v1 : Value) (w1 : World), w1.ownsRow w.heap.size 3 1 v1 (k + 1) (ints .i64 (fixL k ++ [x])) → w1.ownsRow w.heap.size 3 1 v1 (k + 1) (ints .i64 (fixL (k + 1))) := fun x hx v1 w1 h => by rw [fixL_succ, hx]; exact h
      have HF := Lib.hid fin
      clear fin
      have HRI : ∀ x, Hid (RI .i64 (wr.alloc (.cells #[.int .i64 x] 3)) (some ⟨wr.heap.size, 0, none⟩) 1 [x]) := fun x => Lib.hid (ri_one _ _ _ _)
      have HR8 := HRI 8
      have HR9 := HRI 9
      have HR7 := HRI 7
      clear HRI
      by_cases h144 : k < 144
      · have e1 : decide ((k : Int) < 144) = true := by simp; omega
        go_wp2_with (at_builtin; refine app_intsG rfl (.tmp 16) (.tmp 17) rfl w.heap.size _ k (fixL k) rfl (HO.out.alloc _) (some ⟨wr.heap.size, 0, none⟩) 1 1 [8] rfl (by exact HR8.out) ?c1 ?c2 (by omega) ?c3 ?_)
        case c1 => simp
        case c2 => intro ad h; exact ⟨_, _, (Option.some.inj h).symm⟩
        case c3 => simp; omega
        intro v' w1 h1 hg
        have HO1 := Lib.hid (HF.out 8 (by unfold fixGo; rw [if_pos (by omega)]) _ _ h1)
        have HB1 := Lib.hid ((HW.out.alloc (by omega) _).grown hg (by simp; omega) (fun k hk => (HO.out.lt k hk).1))
        clear HO HW h1 hg HF
        go_wp2_with fail
        go_roundw
        case rel => exact ⟨k + 1, by omega, by go_num, HO1, HB1⟩
        case measure => simp [intOf]; omega
      · have e1 : decide ((k : Int) < 144) = false := by simp; omega
        by_cases h279 : 279 < k
        · have e2 : decide (279 < (k : Int)) = true := by simp; omega
          go_wp2_with (at_builtin; refine app_intsG rfl (.tmp 16) (.tmp 17) rfl w.heap.size _ k (fixL k) rfl (HO.out.alloc _) (some ⟨wr.heap.size, 0, none⟩) 1 1 [8] rfl (by exact HR8.out) ?d1 ?d2 (by omega) ?d3 ?_)
          case d1 => simp
          case d2 => intro ad h; exact ⟨_, _, (Option.some.inj h).symm⟩
          case d3 => simp; omega
          intro v' w1 h1 hg
          have HO1 := Lib.hid (HF.out 8 (by unfold fixGo; rw [if_pos (by omega)]) _ _ h1)
          have HB1 := Lib.hid ((HW.out.alloc (by omega) _).grown hg (by simp; omega) (fun k hk => (HO.out.lt k hk).1))
          clear HO HW h1 hg HF
          go_wp2_with fail
          go_roundw
          case rel => exact ⟨k + 1, by omega, by go_num, HO1, HB1⟩
          case measure => simp [intOf]; omega
        · have e2 : decide (279 < (k : Int)) = false := by simp; omega
          by_cases h256 : k < 256
          · have e3 : decide ((k : Int) < 256) = true := by simp; omega
            go_wp2_with (at_builtin; refine app_intsG rfl (.tmp 22) (.tmp 23) rfl w.heap.size _ k (fixL k) rfl (HO.out.alloc _) (some ⟨wr.heap.size, 0, none⟩) 1 1 [9] rfl (by exact HR9.out) ?f1 ?f2 (by omega) ?f3 ?_)
            case f1 => simp
            case f2 => intro ad h; exact ⟨_, _, (Option.some.inj h).symm⟩
            case f3 => simp; omega
            intro v' w1 h1 hg
            have HO1 := Lib.hid (HF.out 9 (by unfold fixGo; rw [if_neg (by omega), if_pos (by omega)]) _ _ h1)
            have HB1 := Lib.hid ((HW.out.alloc (by omega) _).grown hg (by simp; omega) (fun k hk => (HO.out.lt k hk).1))
            clear HO HW h1 hg HF
            go_wp2_with fail
            go_roundw
            case rel => exact ⟨k + 1, by omega, by go_num, HO1, HB1⟩
            case measure => simp [intOf]; omega
          · have e3 : decide ((k : Int) < 256) = false := by simp; omega
            go_wp2_with (at_builtin; refine app_intsG rfl (.tmp 6) (.tmp 7) rfl w.heap.size _ k (fixL k) rfl (HO.out.alloc _) (some ⟨wr.heap.size, 0, none⟩) 1 1 [7] rfl (by exact HR7.out) ?g1 ?g2 (by omega) ?g3 ?_)
            case g1 => simp
            case g2 => intro ad h; exact ⟨_, _, (Option.some.inj h).symm⟩
            case g3 => simp; omega
            intro v' w1 h1 hg
            have HO1 := Lib.hid (HF.out 7 (by unfold fixGo; rw [if_neg (by omega), if_neg (by omega)]) _ _ h1)
            have HB1 := Lib.hid ((HW.out.alloc (by omega) _).grown hg (by simp; omega) (fun k hk => (HO.out.lt k hk).1))
            clear HO HW h1 hg HF
            go_wp2_with fail
            go_roundw
            case rel => exact ⟨k + 1, by omega, by go_num, HO1, HB1⟩
            case measure => simp [intOf]; omega
    · obtain rfl : k = 288 := by omega
      have e0 : decide (((288 : Nat) : Int) < 288) = false := by decide
      have HO1 : Hid (wr.ownsRow w.heap.size 3 1 _ 288 (ints .i64 fixLit)) := Lib.hid (by have := HO.out; rwa [fixL_all] at this)
      clear HO
      go_wp2_with fail
      refine (repeat_calls' _ wr.heap.size 1 32 32 5 rfl (by simp) (by omega) (by omega)).mono ?_
      rintro _ w2 ⟨g2, rfl, hb2, hg2, hB2⟩
      have HB2 := Lib.hid hb2
      have hz : wr.heap.size < g2 := by simp at hg2; omega
      have HW2 := Lib.hid ((HW.out.alloc hsz (.cells #[.int .i64 5] 3)).trans (hB2.mono (by simp; omega)))
      have hO2 := own_keeps HO1.out ((Keeps.refl [] wr).alloc (.cells #[.int .i64 5] 3)) (by simp)
      have HO2 := Lib.hid (own_keeps hO2 (Keeps.of_below hB2 (S := [])) (by simp))
      clear hb2 hg2 hB2 hO2 HO1 HW
      go_wp2_with fail
      go_ret2
      exact ⟨_, _, rfl, HO2.out, HB2.out, by omega, HW2.out⟩
end Go.Proofs.YtkpabdjniiepkaaGreatDoor

set_option linter.unusedVariables false
set_option linter.unusedSimpArgs false
namespace Go.Proofs.YtkpabdjniiepkaaGreatDoor
open Go.RowKit
theorem alignF_bd (p : Nat) : p ≤ alignF p ∧ alignF p < p + 8 ∧ alignF p % 8 = 0 := by unfold alignF; omega
set_option maxRecDepth 100000 in
set_option maxHeartbeats 2000000 in
theorem rstored_calls (w : World) (g : Nat) (B : Option Addr) (M c : Nat) (bs : List Int) (p : Nat) (out : List Int) (most : Nat) (ob : Option Nat) (h : RD w g B M c bs p out most 0 ob) :
    Calls Tryz.prog 54 #[.pointer (some ⟨g, 0, none⟩)] w (RPart w g B M c bs most ob (storedF bs most out p)) := by
  have H := Lib.hid h
  have HML := Lib.hid h.len
  have hple := h.le
  have hsz := h.sz
  obtain ⟨a1, a2, a3⟩ := alignF_bd p
  have haM : alignF p ≤ M := by have := h.len; unfold alignF; omega
  obtain ⟨a, ha⟩ : ∃ a, a = alignF p := ⟨_, rfl⟩
  have HA := Lib.hid ha
  rw [← ha] at a1 a2 a3 haM
  clear h ha
  go_enter Tryz.func54, Tryz.ntmps54
  go_wp2_with fail
  go_loopg [9] (a - p) (fun k v9 wr => ∃ q : Nat, q + k = a ∧ p ≤ q ∧ Hid (RD wr g B M c bs q out most 0 ob) ∧ Hid (FR g ob ob w wr))
  case atStart => exact ⟨p, by omega, by omega, H, Lib.hid (FR.refl _ _ _)⟩
  case round =>
    clear H
    obtain ⟨q, hq, hpq, H, K⟩ := hrel
    obtain ⟨-, c1, -, c4, -⟩ := H.out.cells
    have f1 := H.out.free 1
    by_cases h8 : q % 8 = 0
    · obtain rfl : q = a := by omega
      have e1 : ((q : Int) % 8 != 0) = false := by simp; omega
      go_wp2_with fail
      clear c1 c4 f1 e1
      refine (rtake_calls wr g B M c bs q out most 0 ob 16 16 rfl H.out (by omega)).mono ?_
      rintro _ w1 ⟨n, q1, e1, rfl, h1, k1, n0, n1, hq1, hc1⟩
      have H1 := Lib.hid h1
      have K1 := Lib.hid (K.out.trans (FR.of_keeps k1))
      rw [show (2 : Int) ^ 16 = 65536 from rfl] at n1
      clear h1 k1 H K
      go_wp2_with fail
      refine (rtake_calls w1 g B M c bs q1 out most e1 ob 16 16 rfl H1.out (by omega)).mono ?_
      rintro _ w2 ⟨m, q2, e2, rfl, h2, k2, m0, m1, hq2, hc2⟩
      have H2 := Lib.hid h2
      have K2 := Lib.hid (K1.out.trans (FR.of_keeps k2))
      rw [show (2 : Int) ^ 16 = 65536 from rfl] at m1
      clear h2 k2 H1 K1
      obtain ⟨N, rfl⟩ := Int.eq_ofNat_of_zero_le n0
      have HCC : Hid ((e2 = 0 ∧ q2 = q + 32 ∧ q + 32 ≤ M ∧ (N : Int) = numB bs q 16 ∧ m = numB bs (q + 16) 16) ∨ (e2 = 55 ∧ storedF bs most out p = (out, 0, 55))) := Lib.hid (by
        have hM := HML.out
        rcases hc1 with ⟨_, x1, rfl, x2, rfl⟩ | ⟨_, x1, rfl, x2, rfl⟩ | ⟨x1, _⟩
        · rcases hc2 with ⟨_, y1, rfl, y2, rfl⟩ | ⟨_, y1, rfl, y2, rfl⟩ | ⟨y1, _⟩
          · exact .inl ⟨rfl, by omega, by omega, x2, y2⟩
          · refine .inr ⟨rfl, ?_⟩
            unfold storedF; rw [← HA.out, if_neg (by omega), if_pos (by omega)]
          · exact absurd rfl y1
        · rcases hc2 with ⟨y1, _⟩ | ⟨y1, _⟩ | ⟨_, rfl, _, rfl⟩
          · exact absurd y1 (by decide)
          · exact absurd y1 (by decide)
          · refine .inr ⟨rfl, ?_⟩
            unfold storedF; rw [← HA.out, if_pos (by omega)]
        · exact absurd rfl x1)
      clear hc1 hc2
      obtain ⟨-, -, -, c4, -⟩ := H2.out.cells
      have f4 := H2.out.free 4
      rcases HCC.out with ⟨rfl, rfl, hq32, hn, hm⟩ | ⟨rfl, hr⟩
      rotate_left
      · have HR := Lib.hid hr
        clear hr HCC hq1 hq2
        go_wp2_with fail
        clear c4 f4
        go_loopg [4] 1 (fun k iv wr => iv = .int .i64 0 ∧ 0 < k ∧ Hid (RD wr g B M c bs q2 out most 55 ob) ∧ Hid (FR g ob ob w wr))
        case atStart => exact ⟨rfl, by omega, H2, K2⟩
        case round =>
          obtain ⟨rfl, hk, HE, KE⟩ := hrel
          obtain ⟨-, -, -, c4, -⟩ := HE.out.cells
          by_cases hN : 0 < N
          · have e1 : decide ((0 : Int) < (N : Int)) = true := by simp; omega
            go_wp2_with fail
            go_end0
            exact rpart_err HR.out (by decide) HE.out KE.out
          · have e1 : decide ((0 : Int) < (N : Int)) = false := by simp; omega
            go_wp2_with fail
            go_end0
            exact rpart_err HR.out (by decide) HE.out KE.out
      have HS1 : Hid (storedF bs most out p = if (N : Int) + m ≠ 65535 then (out, 0, 51) else storF bs most N out (q + 32)) := Lib.hid (by
        have hM := HML.out
        unfold storedF
        rw [← HA.out, if_neg (by omega), if_neg (by omega), ← hn, ← hm, Int.toNat_natCast])
      clear HCC hn hm hq1 hq2
      generalize q + 32 = q2 at *
      by_cases hs : (N : Int) + m = 65535
      · have HR := Lib.hid (HS1.out.trans (if_neg (by simpa using hs)))
        have e1 : ((N : Int) + m != 65535) = false := by simpa using hs
        clear HS1
        go_wp2_with fail
        clear c4 f4 e1
        go_loopw [4] (fun iv wr => ∃ (i qq : Nat) (o : List Int) (e : Int) (ob' : Option Nat), i ≤ N ∧ iv = .int .i64 i ∧ Hid ((e = 0 ∧ storedF bs most out p = storF bs most (N - i) o qq) ∨ (e ≠ 0 ∧ storedF bs most out p = (o, 0, e))) ∧
          Hid (RD wr g B M c bs qq o most e ob') ∧ Hid (FR g ob ob' w wr)) (fun iv _ => N - (intOf iv).toNat)
        case atStart => exact ⟨0, q2, out, 0, ob, by omega, rfl, Lib.hid (.inl ⟨rfl, HR.out⟩), H2, K2⟩
        case round =>
          clear H2 K2 HR
          obtain ⟨i, qq, o, e, ob', hi, rfl, HS, H, K⟩ := hrel
          obtain ⟨-, -, -, c4, -⟩ := H.out.cells
          rcases HS.out with ⟨rfl, hsf⟩ | ⟨hne, hsf⟩
          · by_cases hlt : i < N
            · have e0 : decide (i < N) = true := by simpa using hlt
              have e0' : decide ((i : Int) < (N : Int)) = true := by simp; omega
              have HS' : Hid (storedF bs most out p = if 8 * bs.length < qq + 8 then (o, 0, 55) else if most ≤ o.length then (o, 0, 56) else storF bs most (N - (i + 1)) (o ++ [numB bs qq 8]) (qq + 8)) := Lib.hid (by rw [hsf, show N - i = (N - (i + 1)) + 1 by omega, storF])
              clear hsf HS
              go_wp2_with fail
              clear c4
              refine (rtake_calls wr g B M c bs qq o most 0 ob' 8 8 rfl H.out (by omega)).mono ?_
              rintro _ w3 ⟨x, q3, e3, rfl, h3, k3, x0, x1, hq3, hc3⟩
              rw [show (2 : Int) ^ 8 = 256 from rfl] at x1
              have H3 := Lib.hid h3
              have K3 := Lib.hid (K.out.trans (FR.of_keeps k3))
              have s1 : IntKind.u8.wrap x = x := by rw [IntKind.wrap_u8]; omega
              have HC3 := Lib.hid hc3
              clear h3 k3 H K hc3
              go_wp2_with fail
              refine (rlay_calls w3 g B M c bs q3 o most e3 ob' x H3.out).mono ?_
              rintro _ w4 ⟨rfl, hl4⟩
              have HREL : Hid (∃ (qq' : Nat) (o' : List Int) (e' : Int) (ob2 : Option Nat), ((e' = 0 ∧ storedF bs most out p = storF bs most (N - (i + 1)) o' qq') ∨ (e' ≠ 0 ∧ storedF bs most out p = (o', 0, e'))) ∧ RD w4 g B M c bs qq' o' most e' ob2 ∧ FR g ob ob2 w w4) := Lib.hid (by
                have hM := HML.out
                have hs := HS'.out
                rcases HC3.out with ⟨-, y1, rfl, y2, rfl⟩ | ⟨-, y1, rfl, y2, rfl⟩ | ⟨y1, _⟩
                · rw [if_neg (by omega)] at hs
                  rcases hl4 with ⟨z1, _⟩ | ⟨-, z2, z3, z4⟩ | ⟨-, z2, ob2, z3, z4⟩
                  · exact absurd rfl z1
                  · rw [if_pos z2] at hs
                    exact ⟨qq + 8, o, 56, ob', .inr ⟨by decide, hs⟩, z3, K3.out.trans z4⟩
                  · rw [if_neg (by omega), ← y2] at hs
                    exact ⟨qq + 8, _, 0, ob2, .inl ⟨rfl, hs⟩, z3, K3.out.trans z4⟩
                · rw [if_pos (by omega)] at hs
                  rcases hl4 with ⟨-, z3, z4⟩ | ⟨z1, _⟩ | ⟨z1, _⟩
                  · exact ⟨_, o, 55, ob', .inr ⟨by decide, hs⟩, z3, K3.out.trans z4⟩
                  · exact absurd z1 (by decide)
                  · exact absurd z1 (by decide)
                · exact absurd rfl y1)
              obtain ⟨qq', o', e', ob2, hr1, hr2, hr3⟩ := HREL.out
              have HR1 := Lib.hid hr1
              have HR2 := Lib.hid hr2
              have HR3 := Lib.hid hr3
              clear HREL hr1 hr2 hr3 hl4 H3 K3 HS' HC3
              go_wp2_with fail
              go_roundw
              case rel => exact ⟨i + 1, qq', o', e', ob2, by omega, by go_num, HR1, HR2, HR3⟩
              case measure => simp [intOf]; omega
            · obtain rfl : i = N := by omega
              have e0 : decide (i < i) = false := by simp
              have e0' : decide ((i : Int) < (i : Int)) = false := by simp
              have HE : Hid (storedF bs most out p = (o, qq, 0)) := Lib.hid (by rw [hsf, Nat.sub_self, storF])
              clear hsf HS
              go_wp2_with fail
              go_end0
              exact rpart_ok HE.out H.out K.out
          · have e2 : (e == 0) = false := by simpa using hne
            have HE := Lib.hid hsf
            have HNE := Lib.hid hne
            clear hsf HS hne
            by_cases hlt : i < N
            · have e0 : decide (i < N) = true := by simpa using hlt
              have e0' : decide ((i : Int) < (N : Int)) = true := by simp; omega
              go_wp2_with fail
              go_end0
              exact rpart_err HE.out HNE.out H.out K.out
            · have e0 : decide (i < N) = false := by simpa using hlt
              have e0' : decide ((i : Int) < (N : Int)) = false := by simp; omega
              go_wp2_with fail
              go_end0
              exact rpart_err HE.out HNE.out H.out K.out
      · have HR := Lib.hid (HS1.out.trans (if_pos hs))
        have e1 : ((N : Int) + m != 65535) = true := by simpa using hs
        have HX := Lib.hid (H2.out.wrong 51)
        have KX := Lib.hid (K2.out.trans (FR.of_keeps (keepsCell w2 g 4 (.int .i64 51))))
        clear HS1
        go_wp2_with fail
        clear c4 f4 e1
        go_loopg [4] 1 (fun k iv wr => iv = .int .i64 0 ∧ 0 < k ∧ Hid (RD wr g B M c bs q2 out most 51 ob) ∧ Hid (FR g ob ob w wr))
        case atStart => exact ⟨rfl, by omega, HX, KX⟩
        case round =>
          obtain ⟨rfl, hk, HE, KE⟩ := hrel
          obtain ⟨-, -, -, c4, -⟩ := HE.out.cells
          by_cases hN : 0 < N
          · have e1 : decide ((0 : Int) < (N : Int)) = true := by simp; omega
            go_wp2_with fail
            go_end0
            exact rpart_err HR.out (by decide) HE.out KE.out
          · have e1 : decide ((0 : Int) < (N : Int)) = false := by simp; omega
            go_wp2_with fail
            go_end0
            exact rpart_err HR.out (by decide) HE.out KE.out
    · have e1 : ((q : Int) % 8 != 0) = true := by simp; omega
      have e6 : IntKind.i64.wrap ((q : Int) + 1) = (q : Int) + 1 := IntWalk.i64_in _ (by omega)
      obtain ⟨f, rfl⟩ : ∃ f, gk = f + 1 := ⟨gk - 1, by omega⟩
      go_wp2_with fail
      go_roundg f
      case measure => omega
      case rel =>
        have hp := H.out.place (q := q + 1) (by omega)
        rw [show ((q + 1 : Nat) : Int) = (q : Int) + 1 by omega] at hp
        exact ⟨q + 1, by omega, by omega, Lib.hid hp, Lib.hid (K.out.trans (FR.of_keeps (keepsCell _ g 1 _)))⟩
end Go.Proofs.YtkpabdjniiepkaaGreatDoor

set_option linter.unusedVariables false
set_option linter.unusedSimpArgs false
namespace Go.Proofs.YtkpabdjniiepkaaGreatDoor
open Go.RowKit
set_option maxRecDepth 100000 in
set_option maxHeartbeats 400000 in
theorem rtimes_calls (w : World) (base n : Nat) (v : Value) (xs : List Int) (m x : Int) (hown : w.ownsRow base 3 1 v n (ints .i64 xs)) (hb : base ≤ w.heap.size) (hn : n ≤ 100000) (hm : m ≤ 100000) :
    Calls Tryz.prog 79 #[v, .int .i64 m, .int .i64 x] w fun e w' => ∃ v', e = .returned v' ∧ w'.ownsRow base 3 1 v' (n + m.toNat) (ints .i64 (xs ++ List.replicate m.toNat x)) ∧ Below base w w' := by
  have HO := Lib.hid hown
  clear hown
  go_enter Tryz.func79, Tryz.ntmps79
  go_wp2_with fail
  go_loopw [0, 7] (fun u i wr => ∃ k : Nat, k ≤ m.toNat ∧ i = .int .i64 k ∧ Hid (wr.ownsRow base 3 1 u (n + k) (ints .i64 (xs ++ List.replicate k x))) ∧ Hid (Below base w wr)) (fun _ i _ => m.toNat - (intOf i).toNat)
  case atStart => exact ⟨0, by omega, rfl, Lib.hid (by simpa using HO.out), Below.refl _ _⟩
  case round =>
    clear HO
    obtain ⟨k, hk, rfl, HO, HW⟩ := hrel
    have hsz := HW.out.size
    by_cases hlt : (k : Int) < m
    · have HRI : Hid (RI .i64 (wr.alloc (.cells #[.int .i64 x] 3)) (some ⟨wr.heap.size, 0, none⟩) 1 [x]) := Lib.hid (ri_one _ _ _ _)
      go_wp2_with (at_builtin; refine app_intsG rfl (.tmp 13) (.tmp 15) rfl base _ (n + k) (xs ++ List.replicate k x) rfl (HO.out.alloc _) (some ⟨wr.heap.size, 0, none⟩) 1 1 [x] rfl (by exact HRI.out) ?c1 ?c2 (by omega) ?c3 ?_)
      case c1 => simp
      case c2 => intro ad h; exact ⟨_, _, (Option.some.inj h).symm⟩
      case c3 => simp; omega
      intro v' w1 h1 hg
      have HO1 := Lib.hid h1
      have HB1 := Lib.hid ((HW.out.alloc (by omega) _).grown hg (by simp; omega) (fun k hk => (HO.out.lt k hk).1))
      clear HO HW h1 hg HRI
      go_wp2_with fail
      go_roundw
      case rel => exact ⟨k + 1, by omega, by go_num, Lib.hid (by rw [List.replicate_succ']; exact HO1.out), HB1⟩
      case measure => simp [intOf]; omega
    · go_wp2_with fail
      go_ret
      obtain rfl : k = m.toNat := by omega
      exact ⟨_, rfl, HO.out, HW.out⟩
set_option maxRecDepth 100000 in
set_option maxHeartbeats 400000 in
theorem rfixed_calls (w : World) : Calls Tryz.prog 55 #[] w fun e w' => ∃ v1 v2, e = .returned (.tuple #[v1, v2]) ∧ w'.ownsRow w.heap.size 3 1 v1 288 (ints .i64 fixLit) ∧ w'.ownsRow w.heap.size 3 1 v2 32 (ints .i64 fixDist) ∧ Below w.heap.size w w' := by
  go_enter Tryz.func55, Tryz.ntmps55
  go_wp2_with fail
  refine (rtimes_calls w w.heap.size 0 _ [] 144 8 (World.ownsRow_nil _ _ _ _) (Nat.le_refl _) (by omega) (by omega)).mono ?_
  rintro _ w1 ⟨v1, rfl, ho1, hb1⟩
  have HO1 := Lib.hid ho1
  have HB1 := Lib.hid hb1
  clear ho1 hb1
  go_wp2_with fail
  refine (rtimes_calls w1 w.heap.size _ _ _ 112 9 HO1.out HB1.out.size (by decide) (by omega)).mono ?_
  rintro _ w2 ⟨v2, rfl, ho2, hb2⟩
  have HO2 := Lib.hid ho2
  have HB2 := Lib.hid (HB1.out.trans hb2)
  clear ho2 hb2
  go_wp2_with fail
  refine (rtimes_calls w2 w.heap.size _ _ _ 24 7 HO2.out HB2.out.size (by decide) (by omega)).mono ?_
  rintro _ w3 ⟨v3, rfl, ho3, hb3⟩
  have HO3 := Lib.hid ho3
  have HB3 := Lib.hid (HB2.out.trans hb3)
  clear ho3 hb3
  go_wp2_with fail
  refine (rtimes_calls w3 w.heap.size _ _ _ 8 8 HO3.out HB3.out.size (by decide) (by omega)).mono ?_
  rintro _ w4 ⟨v4, rfl, ho4, hb4⟩
  have HO4 : Hid (w4.ownsRow w.heap.size 3 1 v4 288 (ints .i64 fixLit)) := Lib.hid ho4
  have HB4 := Lib.hid (HB3.out.trans hb4)
  clear ho4 hb4
  go_wp2_with fail
  refine (rtimes_calls w4 w4.heap.size 0 _ [] 32 5 (World.ownsRow_nil _ _ _ _) (Nat.le_refl _) (by omega) (by omega)).mono ?_
  rintro _ w5 ⟨v5, rfl, ho5, hb5⟩
  have HO5 : Hid (w5.ownsRow w4.heap.size 3 1 v5 32 (ints .i64 fixDist)) := Lib.hid ho5
  have HO45 := Lib.hid (own_keeps HO4.out (Keeps.of_below hb5 (S := [])) (by simp))
  have HB5 := Lib.hid (HB4.out.trans (hb5.mono HB4.out.size))
  have HZ := Lib.hid HB4.out.size
  clear ho5 hb5
  go_wp2_with fail
  go_ret2
  exact ⟨_, _, rfl, HO45.out, HO5.out.mono HZ.out, HB5.out⟩
/-- It is refused, if so. -/
def badE (e : Int) (is : Bool) : Int := if e = 0 ∧ is = true then 52 else e
theorem rbad_calls (w : World) (g : Nat) (B : Option Addr) (M c : Nat) (bs : List Int) (p : Nat) (out : List Int) (most : Nat) (e : Int) (ob : Option Nat) (is : Bool) (h : RD w g B M c bs p out most e ob) :
    Calls Tryz.prog 83 #[.pointer (some ⟨g, 0, none⟩), .bool is] w fun r w' => r = .returned (.tuple #[]) ∧ RD w' g B M c bs p out most (badE e is) ob ∧ Keeps [g] w w' := by
  have H := Lib.hid h
  obtain ⟨-, -, -, c4, -⟩ := h.cells
  have f4 := h.free 4
  clear h
  by_cases he : e = 0
  · subst he
    cases is with
    | true =>
      have HE : Hid (badE 0 true = 52) := Lib.hid rfl
      rw [HE.out]
      go_enter Tryz.func83, Tryz.ntmps83
      go_wp2_with fail
      go_end0
      exact ⟨rfl, H.out.wrong 52, keepsCell _ g 4 _⟩
    | false =>
      have HE : Hid (badE 0 false = 0) := Lib.hid rfl
      rw [HE.out]
      go_enter Tryz.func83, Tryz.ntmps83
      go_wp2_with fail
      go_end0
      exact ⟨rfl, H.out, Keeps.refl _ _⟩
  · have e1 : (e == 0) = false := by simpa using he
    rw [show badE e is = e from if_neg (fun h => he h.1)]
    clear he
    go_enter Tryz.func83, Tryz.ntmps83
    go_wp2_with fail
    go_end0
    exact ⟨rfl, H.out, Keeps.refl _ _⟩
theorem any_false_of {l : List Int} (h : ∀ j, j < l.length → ¬ 0 < nth l j) : anyUsed l = false := by
  rw [Bool.eq_false_iff]
  intro ht
  obtain ⟨j, hj, h2⟩ := (any_iff l).1 ht
  exact h j hj h2
set_option maxRecDepth 100000 in
set_option maxHeartbeats 400000 in
theorem rused_calls (w : World) (A : Option Addr) (n c : Nat) (l : List Int) (hl : RI .i64 w A n l) (hn : n ≤ 140737488355328) :
    Calls Tryz.prog 86 #[.slice A n c] w fun e w' => e = .returned (.bool (anyUsed l)) ∧ Dr w w' := by
  have HL := Lib.hid hl
  have HLL := Lib.hid hl.len
  clear hl
  go_enter Tryz.func86, Tryz.ntmps86
  go_wp2_with fail
  go_loopw [3] (fun iv wr => ∃ k : Nat, k ≤ n ∧ iv = .int .i64 k ∧ Hid (∀ j, j < k → ¬ 0 < nth l j) ∧ Hid (Dr w wr)) (fun iv _ => n - (intOf iv).toNat)
  case atStart => exact ⟨0, by omega, rfl, Lib.hid (fun j hj => by omega), Lib.hid (Dr.refl w)⟩
  case round =>
    obtain ⟨k, hk, rfl, HM, HD⟩ := hrel
    by_cases hlt : k < n
    · obtain ⟨b, o, rfl, hc⟩ := HL.out.at hlt
      have hc := (HD.out.keeps (S := [])).cell (by simp) hc
      have e1 : decide (k < n) = true := by simpa using hlt
      by_cases hv : 0 < nth l k
      · have e2 : decide (0 < nth l k) = true := by simpa using hv
        have HA : Hid (anyUsed l = true) := Lib.hid ((any_iff l).2 ⟨k, by rw [HLL.out]; exact hlt, hv⟩)
        clear hv
        go_wp2_with fail
        go_ret
        rw [HA.out]
        exact ⟨rfl, HD.out⟩
      · have e2 : decide (0 < nth l k) = false := by simpa using hv
        have HV := Lib.hid hv
        clear hv
        go_wp2_with fail
        go_roundw
        case rel => exact ⟨k + 1, by omega, by go_num, Lib.hid (fun j hj => by
            by_cases hjk : j = k
            · subst hjk; exact HV.out
            · exact HM.out j (by omega)), HD⟩
        case measure => simp [intOf]; omega
    · obtain rfl : k = n := by omega
      have e1 : decide (k < k) = false := by simp
      have HA := Lib.hid (any_false_of (fun j hj => HM.out j (by rw [HLL.out] at hj; exact hj)))
      go_wp2_with fail
      go_ret
      rw [HA.out]
      exact ⟨rfl, HD.out⟩
set_option maxHeartbeats 400000 in
theorem rpower_calls (w : World) (n : Nat) (ni : Int) (hni : ni = n) (hn : n ≤ 15) : Calls Tryz.prog 110 #[.int .i64 ni] w fun e w' => e = .returned (.int .i64 ((2 ^ n : Nat) : Int)) ∧ w = w' := by
  subst hni
  go_enter Tryz.func110, Tryz.ntmps110
  go_wp2_with fail
  go_loopw [3, 4] (fun pv iv wr => ∃ k : Nat, k ≤ n ∧ iv = .int .i64 k ∧ pv = .int .i64 ((2 ^ k : Nat) : Int) ∧ Hid (w = wr)) (fun _ iv _ => n - (intOf iv).toNat)
  case atStart => exact ⟨0, by omega, rfl, rfl, Lib.hid rfl⟩
  case round =>
    obtain ⟨k, hk, rfl, rfl, HD⟩ := hrel
    have hb : 2 ^ k ≤ 2 ^ 15 := Nat.pow_le_pow_right (by decide) (by omega)
    have HS : Hid (2 ^ (k + 1) = 2 * 2 ^ k) := Lib.hid (by rw [Nat.pow_succ]; omega)
    rw [show (2 : Nat) ^ 15 = 32768 from rfl] at hb
    obtain ⟨x, hx⟩ : ∃ x, x = 2 ^ k := ⟨_, rfl⟩
    have HX := Lib.hid hx
    rw [← hx] at hb HS ⊢
    clear hx
    by_cases hlt : k < n
    · have e1 : decide (k < n) = true := by simpa using hlt
      go_wp2_with fail
      go_roundw
      case rel => exact ⟨k + 1, by omega, by go_num, by rw [HS.out]; go_num, HD⟩
      case measure => simp [intOf]; omega
    · obtain rfl : k = n := by omega
      have e1 : decide (k < k) = false := by simp
      go_wp2_with fail
      go_ret
      exact ⟨by first | rfl | (rw [HX.out]; rfl), HD.out⟩
def extraF (s : Nat) : Nat := if s < 265 then 0 else (s - 261) / 4
theorem rextra_calls (w : World) (s : Nat) (si : Int) (hsi : si = s) (hs : s ≤ 1000) : Calls Tryz.prog 111 #[.int .i64 si] w fun e w' => e = .returned (.int .i64 (extraF s)) ∧ w = w' := by
  subst hsi
  by_cases h : s < 265
  · have e1 : decide (s < 265) = true := by simpa using h
    have e1' : decide ((s : Int) < 265) = true := by simp; omega
    have HE : Hid (extraF s = 0) := Lib.hid (if_pos h)
    rw [HE.out]
    go_enter Tryz.func111, Tryz.ntmps111
    go_wp2_with fail
    go_ret
    exact ⟨rfl, rfl⟩
  · have e1 : decide (s < 265) = false := by simpa using h
    have e1' : decide ((s : Int) < 265) = false := by simp; omega
    have HE : Hid (((extraF s : Nat) : Int) = ((s : Int) - 261) / 4) := Lib.hid (by unfold extraF; rw [if_neg h]; omega)
    rw [HE.out]
    go_enter Tryz.func111, Tryz.ntmps111
    go_wp2_with fail
    go_ret
    exact ⟨rfl, rfl⟩
theorem rwide_calls (w : World) (s : Nat) (si : Int) (hsi : si = s) (hs : s ≤ 1000) : Calls Tryz.prog 112 #[.int .i64 si] w fun e w' => e = .returned (.int .i64 (distK s)) ∧ w = w' := by
  subst hsi
  by_cases h : s < 4
  · have e1 : decide (s < 4) = true := by simpa using h
    have e1' : decide ((s : Int) < 4) = true := by simp; omega
    have HE : Hid (distK s = 0) := Lib.hid (if_pos h)
    rw [HE.out]
    go_enter Tryz.func112, Tryz.ntmps112
    go_wp2_with fail
    go_ret
    exact ⟨rfl, rfl⟩
  · have e1 : decide (s < 4) = false := by simpa using h
    have e1' : decide ((s : Int) < 4) = false := by simp; omega
    have HE : Hid (((distK s : Nat) : Int) = ((s : Int) - 2) / 2) := Lib.hid (by unfold distK; rw [if_neg h]; omega)
    rw [HE.out]
    go_enter Tryz.func112, Tryz.ntmps112
    go_wp2_with fail
    go_ret
    exact ⟨rfl, rfl⟩
def lb : Nat → Nat
  | 0 => 3
  | k + 1 => lb k + 2 ^ extraF (257 + k)
theorem lb_base : ∀ k, k < 28 → lb k = lenBase (257 + k) ∧ extraF (257 + k) = lenK (257 + k) ∧ lb k ≤ 1000 ∧ extraF (257 + k) ≤ 5 := by decide
def db : Nat → Nat
  | 0 => 1
  | k + 1 => db k + 2 ^ distK k
theorem db_base : ∀ k, k < 30 → db k = distBase k ∧ db k ≤ 40000 ∧ distK k ≤ 13 := by decide +kernel
/-- What a number read behind a symbol answers: all of it, or what has come so far. -/
def RNum (w : World) (g : Nat) (B : Option Addr) (M c : Nat) (bs : List Int) (p : Nat) (out : List Int) (most : Nat) (ob : Option Nat) (base k : Nat) (r : Ending) (w' : World) : Prop :=
  ∃ (v : Int) (p' : Nat) (e' : Int), r = .returned (.int .i64 v) ∧ RD w' g B M c bs p' out most e' ob ∧ Keeps [g] w w' ∧ 0 ≤ v ∧ v ≤ 100000 ∧
    ((p + k ≤ M ∧ e' = 0 ∧ v = base + numB bs p k ∧ p' = p + k) ∨ (M < p + k ∧ e' = 55))
set_option maxRecDepth 100000 in
set_option maxHeartbeats 1000000 in
theorem rlength_calls (w : World) (g : Nat) (B : Option Addr) (M c : Nat) (bs : List Int) (p : Nat) (out : List Int) (most : Nat) (ob : Option Nat) (s : Nat) (h : RD w g B M c bs p out most 0 ob) (hs : 257 ≤ s) (hs2 : s ≤ 285) :
    Calls Tryz.prog 101 #[.pointer (some ⟨g, 0, none⟩), .int .i64 s] w (RNum w g B M c bs p out most ob (lenBase s) (lenK s)) := by
  have H := Lib.hid h
  have hle := h.le
  clear h
  by_cases h5 : s = 285
  · subst h5
    go_enter Tryz.func101, Tryz.ntmps101
    go_wp2_with fail
    go_ret
    exact ⟨258, p, 0, rfl, H.out, Keeps.refl _ _, by omega, by omega, .inl ⟨by simp [lenK]; omega, rfl, by simp [lenBase, lenK, numB], by simp [lenK]⟩⟩
  have e1 : ((s : Int) == 285) = false := by simp; omega
  obtain ⟨j, rfl⟩ : ∃ j, s = 257 + j := ⟨s - 257, by omega⟩
  have hj : j < 28 := by omega
  obtain ⟨b1, b2, b3, b4⟩ := lb_base j hj
  have HB1 := Lib.hid b1
  have HB2 := Lib.hid b2
  clear b1 b2
  have hc : ((257 + j : Nat) : Int) = 257 + (j : Int) := by omega
  rw [hc] at e1 ⊢
  go_enter Tryz.func101, Tryz.ntmps101
  go_wp2_with fail
  clear e1 hc
  go_loopw [5, 6] (fun bv kv wr => ∃ k : Nat, k ≤ j ∧ kv = .int .i64 (257 + (k : Int)) ∧ bv = .int .i64 (lb k) ∧ Hid (w = wr)) (fun _ kv _ => 257 + j - (intOf kv).toNat)
  case atStart => exact ⟨0, by omega, rfl, rfl, Lib.hid rfl⟩
  case round =>
    obtain ⟨k, hk, rfl, rfl, HD⟩ := hrel
    obtain ⟨d1, d2, d3, d4⟩ := lb_base k (by omega)
    have HS : Hid (lb (k + 1) = lb k + 2 ^ extraF (257 + k)) := Lib.hid rfl
    clear d1 d2
    by_cases hlt : k < j
    · have e2 : decide (257 + (k : Int) < 257 + (j : Int)) = true := by simp; omega
      go_wp2_with fail
      refine (rextra_calls wr (257 + k) _ (by omega) (by omega)).mono ?_
      rintro _ w1 ⟨rfl, rfl⟩
      go_wp2_with fail
      refine (rpower_calls wr (extraF (257 + k)) _ rfl (by omega)).mono ?_
      rintro _ w1 ⟨rfl, rfl⟩
      have hp : 2 ^ extraF (257 + k) ≤ 2 ^ 5 := Nat.pow_le_pow_right (by decide) d4
      rw [show (2 : Nat) ^ 5 = 32 from rfl] at hp
      generalize 2 ^ extraF (257 + k) = y at *
      generalize lb k = z at *
      go_wp2_with fail
      go_roundw
      case rel => exact ⟨k + 1, by omega, by go_num, by rw [HS.out]; go_num, HD⟩
      case measure => simp [intOf]; omega
    · obtain rfl : k = j := by omega
      have e2 : decide (257 + (k : Int) < 257 + (k : Int)) = false := by simp
      have HDw := HD.out
      subst HDw
      go_wp2_with fail
      refine (rextra_calls w (257 + k) _ (by omega) (by omega)).mono ?_
      rintro _ w1 ⟨rfl, rfl⟩
      go_wp2_with fail
      refine (rtake_calls w g B M c bs p out most 0 ob (extraF (257 + k)) _ rfl H.out (by omega)).mono ?_
      rintro _ w2 ⟨v, p', e', rfl, h2, k2, v0, v1, -, hc⟩
      have H2 := Lib.hid h2
      have K2 := Lib.hid k2
      have p32 : (2 : Int) ^ extraF (257 + k) ≤ 32 := by
        have : (2 : Nat) ^ extraF (257 + k) ≤ 2 ^ 5 := Nat.pow_le_pow_right (by decide) d4
        exact_mod_cast this
      have hv : v ≤ 32 := by omega
      have HC := Lib.hid hc
      clear h2 k2 hc v1 p32 HS
      generalize hz : lb k = z at *
      have HZ := Lib.hid hz
      clear hz
      go_wp2_with fail
      go_ret
      refine ⟨(z : Int) + v, p', e', rfl, H2.out, K2.out, by omega, by omega, ?_⟩
      rw [← HB1.out, ← HB2.out]
      rcases HC.out with ⟨-, x1, x2, x3, x4⟩ | ⟨-, x1, x2, _⟩ | ⟨x1, _⟩
      · exact .inl ⟨x1, x2, by rw [x3], x4⟩
      · exact .inr ⟨x1, x2⟩
      · exact absurd rfl x1
set_option maxRecDepth 100000 in
set_option maxHeartbeats 1000000 in
theorem rdistance_calls (w : World) (g : Nat) (B : Option Addr) (M c : Nat) (bs : List Int) (p : Nat) (out : List Int) (most : Nat) (ob : Option Nat) (j : Nat) (h : RD w g B M c bs p out most 0 ob) (hj : j < 30) :
    Calls Tryz.prog 102 #[.pointer (some ⟨g, 0, none⟩), .int .i64 j] w (RNum w g B M c bs p out most ob (distBase j) (distK j)) := by
  have H := Lib.hid h
  have hle := h.le
  clear h
  obtain ⟨b1, b3, b4⟩ := db_base j hj
  have HB1 := Lib.hid b1
  clear b1
  go_enter Tryz.func102, Tryz.ntmps102
  go_wp2_with fail
  go_loopw [5, 6] (fun bv kv wr => ∃ k : Nat, k ≤ j ∧ kv = .int .i64 k ∧ bv = .int .i64 (db k) ∧ Hid (w = wr)) (fun _ kv _ => j - (intOf kv).toNat)
  case atStart => exact ⟨0, by omega, rfl, rfl, Lib.hid rfl⟩
  case round =>
    obtain ⟨k, hk, rfl, rfl, HD⟩ := hrel
    obtain ⟨d1, d3, d4⟩ := db_base k (by omega)
    have HS : Hid (db (k + 1) = db k + 2 ^ distK k) := Lib.hid rfl
    clear d1
    by_cases hlt : k < j
    · have e2 : decide (k < j) = true := by simpa using hlt
      go_wp2_with fail
      refine (rwide_calls wr k _ rfl (by omega)).mono ?_
      rintro _ w1 ⟨rfl, rfl⟩
      go_wp2_with fail
      refine (rpower_calls wr (distK k) _ rfl (by omega)).mono ?_
      rintro _ w1 ⟨rfl, rfl⟩
      have hp : 2 ^ distK k ≤ 2 ^ 13 := Nat.pow_le_pow_right (by decide) d4
      rw [show (2 : Nat) ^ 13 = 8192 from rfl] at hp
      generalize 2 ^ distK k = y at *
      generalize db k = z at *
      go_wp2_with fail
      go_roundw
      case rel => exact ⟨k + 1, by omega, by go_num, by rw [HS.out]; go_num, HD⟩
      case measure => simp [intOf]; omega
    · obtain rfl : k = j := by omega
      have e2 : decide (k < k) = false := by simp
      have HDw := HD.out
      subst HDw
      go_wp2_with fail
      refine (rwide_calls w k _ rfl (by omega)).mono ?_
      rintro _ w1 ⟨rfl, rfl⟩
      go_wp2_with fail
      refine (rtake_calls w g B M c bs p out most 0 ob (distK k) _ rfl H.out (by omega)).mono ?_
      rintro _ w2 ⟨v, p', e', rfl, h2, k2, v0, v1, -, hc⟩
      have H2 := Lib.hid h2
      have K2 := Lib.hid k2
      have p32 : (2 : Int) ^ distK k ≤ 8192 := by
        have : (2 : Nat) ^ distK k ≤ 2 ^ 13 := Nat.pow_le_pow_right (by decide) d4
        exact_mod_cast this
      have hv : v ≤ 8192 := by omega
      have HC := Lib.hid hc
      clear h2 k2 hc v1 p32 HS
      generalize hz : db k = z at *
      have HZ := Lib.hid hz
      clear hz
      go_wp2_with fail
      go_ret
      refine ⟨(z : Int) + v, p', e', rfl, H2.out, K2.out, by omega, by omega, ?_⟩
      rw [← HB1.out]
      rcases HC.out with ⟨-, x1, x2, x3, x4⟩ | ⟨-, x1, x2, _⟩ | ⟨x1, _⟩
      · exact .inl ⟨x1, x2, by rw [x3], x4⟩
      · exact .inr ⟨x1, x2⟩
      · exact absurd rfl x1
end Go.Proofs.YtkpabdjniiepkaaGreatDoor

set_option linter.unusedVariables false
set_option linter.unusedSimpArgs false
namespace Go.Proofs.YtkpabdjniiepkaaGreatDoor
open Go.RowKit
theorem copyF_long {dist bs : List Int} {most s : Nat} {out : List Int} {p : Nat} (h : 285 < s) : copyF dist bs most s out p = (out, 0, 53) := by unfold copyF; rw [if_pos h]
theorem copyF_end {dist bs : List Int} {most s : Nat} {out : List Int} {p : Nat} (h : ¬ 285 < s) (h2 : 8 * bs.length < p + lenK s) : copyF dist bs most s out p = (out, 0, 55) := by unfold copyF; rw [if_neg h, if_pos h2]
theorem copyF_none {dist bs : List Int} {most s : Nat} {out : List Int} {p : Nat} (h : ¬ 285 < s) (h2 : ¬ 8 * bs.length < p + lenK s) (h3 : anyUsed dist = false) : copyF dist bs most s out p = (out, 0, 53) := by unfold copyF; rw [if_neg h, if_neg h2, if_pos h3]
theorem copyF_rest {dist bs : List Int} {most s : Nat} {out : List Int} {p q : Nat} (h : ¬ 285 < s) (h2 : ¬ 8 * bs.length < p + lenK s) (h3 : anyUsed dist = true) (hq : q = p + lenK s) :
    copyF dist bs most s out p = if (decF dist bs q).2.1 ≠ 0 then (out, 0, endF (decF dist bs q).2.1 53)
      else if 29 < (decF dist bs q).1 then (out, 0, 53)
      else if 8 * bs.length < q + (decF dist bs q).2.2 + distK (decF dist bs q).1.toNat then (out, 0, 55)
      else if (out.length : Int) < distBase (decF dist bs q).1.toNat + numB bs (q + (decF dist bs q).2.2) (distK (decF dist bs q).1.toNat) then (out, 0, 54)
      else if (layN ((distBase (decF dist bs q).1.toNat : Int) + numB bs (q + (decF dist bs q).2.2) (distK (decF dist bs q).1.toNat)).toNat most (lenBase s + (numB bs p (lenK s)).toNat) out).2 ≠ 0 then
        ((layN ((distBase (decF dist bs q).1.toNat : Int) + numB bs (q + (decF dist bs q).2.2) (distK (decF dist bs q).1.toNat)).toNat most (lenBase s + (numB bs p (lenK s)).toNat) out).1, 0, 56)
      else ((layN ((distBase (decF dist bs q).1.toNat : Int) + numB bs (q + (decF dist bs q).2.2) (distK (decF dist bs q).1.toNat)).toNat most (lenBase s + (numB bs p (lenK s)).toNat) out).1, q + (decF dist bs q).2.2 + distK (decF dist bs q).1.toNat, 0) := by
  subst hq
  unfold copyF
  rw [if_neg h, if_neg h2, if_neg (by rw [h3]; simp)]
set_option maxRecDepth 100000 in
set_option maxHeartbeats 4000000 in
theorem rcopies_calls (w : World) (g : Nat) (B : Option Addr) (M c : Nat) (bs : List Int) (p : Nat) (out : List Int) (most : Nat) (ob : Option Nat) (s : Nat) (dist : List Int) (A2 : Option Addr) (n2 c2 : Nat) (g2 top : Nat) (h : RD w g B M c bs p out most 0 ob)
    (hd : RI .i64 w A2 n2 dist) (hr : RBT w g2 top n2 (rowsF dist)) (hc : anyUsed dist = true → checkF dist = 0) (hn : n2 ≤ 288) (hs : 257 ≤ s) (hs2 : s ≤ 100000) (hA : ∀ a, A2 = some a → a.block ≠ g) (hg2 : g < g2) (hap : Apart g2 top ob) :
    Calls Tryz.prog 82 #[.pointer (some ⟨g, 0, none⟩), .int .i64 s, .slice A2 n2 c2, .slice (some ⟨g2, 0, none⟩) n2 n2] w (RPart w g B M c bs most ob (copyF dist bs most s out p)) := by
  have H := Lib.hid h
  have HD := Lib.hid hd
  have HR := Lib.hid hr
  have HC := Lib.hid hc
  have HML := Lib.hid h.len
  have HA2 := Lib.hid hA
  have hsz := h.sz
  obtain ⟨-, -, -, c4, -⟩ := h.cells
  have f4 := h.free 4
  have HAP := Lib.hid hap
  clear h hd hr hc hA hap
  go_enter Tryz.func82, Tryz.ntmps82
  by_cases h1 : 285 < s
  · have e1 : decide (285 < s) = true := by simpa using h1
    have e1' : decide ((285 : Int) < (s : Int)) = true := by simp; omega
    have HE := Lib.hid (copyF_long (dist := dist) (bs := bs) (most := most) (out := out) (p := p) h1)
    go_wp2_with fail
    exact bodyPost_ret (v := .tuple #[]) (results_none rfl _ _ _) rfl (rpart_err HE.out (by decide) (H.out.wrong 53) (FR.of_keeps (keepsCell _ g 4 _)))
  have e1 : decide (285 < s) = false := by simpa using h1
  have e1' : decide ((285 : Int) < (s : Int)) = false := by simp; omega
  have HS := Lib.hid h1
  go_wp2_with fail
  clear c4 f4
  refine (rlength_calls w g B M c bs p out most ob s H.out hs (by omega)).mono ?_
  rintro _ w1 ⟨n, p1, e1, rfl, hh1, k1, n0, n1, hc1⟩
  have H1 := Lib.hid hh1
  have K1 : Hid (FR g ob ob w w1) := Lib.hid (FR.of_keeps k1)
  have HD1 := Lib.hid (HD.out.keeps k1 (fun a ha hm => HA2.out a ha (List.mem_singleton.1 hm)))
  obtain ⟨-, -, -, c4, -⟩ := hh1.cells
  have f4 := hh1.free 4
  rcases hc1 with ⟨hf1, rfl, hnv, rfl⟩ | ⟨hf1, rfl⟩
  rotate_left
  · have HE := Lib.hid (copyF_end (dist := dist) (most := most) (out := out) HS.out (show 8 * bs.length < p + lenK s by have := HML.out; omega))
    clear hh1 k1
    go_wp2_with fail
    clear c4 f4
    refine (rsym_bad w1 g B M c bs p1 out most 55 ob _ 53 H1.out (by decide)).mono ?_
    rintro _ w2 ⟨rfl, hh2, k2⟩
    have H2 := Lib.hid hh2
    have K2 := Lib.hid (K1.out.trans (FR.of_nil k2))
    obtain ⟨-, -, -, c4, -⟩ := hh2.cells
    clear hh2 k2
    go_wp2_with fail
    exact bodyPost_ret (v := .tuple #[]) (results_none rfl _ _ _) rfl (rpart_err HE.out (by decide) H2.out K2.out)
  have HF1 : Hid (¬ 8 * bs.length < p + lenK s) := Lib.hid (by have := HML.out; omega)
  obtain ⟨q, hq⟩ : ∃ q, q = p + lenK s := ⟨_, rfl⟩
  have HQ := Lib.hid hq
  rw [← hq] at H1 hf1
  obtain ⟨N, hN⟩ : ∃ N : Nat, n = N := ⟨n.toNat, by omega⟩
  have HN : Hid (N = lenBase s + (numB bs p (lenK s)).toNat) := Lib.hid (by
    have := (numB_lt bs p (lenK s)).1
    omega)
  subst hN
  clear hh1 k1 hq hnv n0 H
  go_wp2_with fail
  refine (rused_calls w1 A2 n2 c2 dist HD1.out (by omega)).mono ?_
  rintro _ w2 ⟨rfl, hd2⟩
  have hk2 := hd2.keeps (S := [])
  have H2 := Lib.hid (H1.out.keeps hk2)
  have K2 := Lib.hid (K1.out.trans (FR.of_nil hk2))
  obtain ⟨-, -, -, c4, -⟩ := H2.out.cells
  have f4 := H2.out.free 4
  clear hd2 hk2 H1 K1 HD1
  obtain ⟨u, hu⟩ : ∃ u, u = anyUsed dist := ⟨_, rfl⟩
  have HU := Lib.hid hu
  rw [← hu]
  clear hu
  cases u with
  | false =>
    have HE := Lib.hid (copyF_none (dist := dist) (most := most) (out := out) HS.out HF1.out HU.out.symm)
    have HX := Lib.hid (H2.out.wrong 53)
    have KX := Lib.hid (K2.out.trans (FR.of_keeps (keepsCell w2 g 4 (.int .i64 53))))
    go_wp2_with fail
    clear c4 f4
    refine (rsym_bad _ g B M c bs q out most 53 ob _ 53 HX.out (by decide)).mono ?_
    rintro _ w3 ⟨rfl, hh3, k3⟩
    have H3 := Lib.hid hh3
    have K3 := Lib.hid (KX.out.trans (FR.of_nil k3))
    obtain ⟨-, -, -, c4, -⟩ := hh3.cells
    clear hh3 k3 H2 K2 HX KX
    go_wp2_with fail
    exact bodyPost_ret (v := .tuple #[]) (results_none rfl _ _ _) rfl (rpart_err HE.out (by decide) H3.out K3.out)
  | true =>
    have HE := Lib.hid (copyF_rest (dist := dist) (most := most) (out := out) HS.out HF1.out HU.out.symm HQ.out)
    rw [← HN.out] at HE
    obtain ⟨hrb, hap2⟩ := HR.out.fr K2.out hg2 HAP.out
    have HRB := Lib.hid hrb
    clear hrb hap2
    go_wp2_with fail
    clear c4 f4
    refine (rsym_calls w2 g B M c bs q out most ob g2 top n2 dist 53 H2.out HRB.out (HC.out HU.out.symm) hn).mono ?_
    rintro _ w3 ⟨rfl, hh3, k3⟩
    have H3 := Lib.hid hh3
    have K3 := Lib.hid (K2.out.trans (FR.of_keeps k3))
    have hbd := dec_bd dist bs q (by have := HML.out; omega)
    obtain ⟨-, -, -, c4, -⟩ := hh3.cells
    have f4 := hh3.free 4
    clear hh3 k3 H2 K2 HRB
    generalize decF dist bs q = dr at *
    obtain ⟨sy, er, nn⟩ := dr
    simp only [] at H3 hbd HE c4 ⊢
    rcases hbd with ⟨rfl, d, rfl, hdl2, hq2⟩ | ⟨her, rfl, rfl⟩
    rotate_left
    · have HR2 := Lib.hid (HE.out.trans (if_pos her))
      have HNE : Hid (endF er 53 ≠ 0) := Lib.hid (fun h => her (endF_zero (by decide) h))
      obtain ⟨y, hy⟩ : ∃ y, y = endF er 53 := ⟨_, rfl⟩
      rw [← hy] at HR2 HNE H3 c4
      have e5 : (y == 0) = false := by simpa using HNE.out
      have e6 : (y != 0) = true := by simpa using HNE.out
      clear her HE hy
      go_wp2_with fail
      exact bodyPost_ret (v := .tuple #[]) (results_none rfl _ _ _) rfl (rpart_err HR2.out HNE.out H3.out K3.out)
    rw [show endF 0 53 = 0 from rfl] at H3 c4
    rw [Int.toNat_natCast] at HE
    have HE2 := Lib.hid (HE.out.trans (if_neg (by simp)))
    clear HE hdl2
    by_cases hd29 : 29 < d
    · have HR2 := Lib.hid (HE2.out.trans (if_pos (by omega)))
      have e5 : decide (29 < d) = true := by simpa using hd29
      have e5' : decide ((29 : Int) < (d : Int)) = true := by simp; omega
      have HX := Lib.hid (H3.out.wrong 53)
      have KX := Lib.hid (K3.out.trans (FR.of_keeps (keepsCell w3 g 4 (.int .i64 53))))
      obtain ⟨-, -, -, d4, -⟩ := HX.out.cells
      clear HE2
      go_wp2_with fail
      exact bodyPost_ret (v := .tuple #[]) (results_none rfl _ _ _) rfl (rpart_err HR2.out (by decide) HX.out KX.out)
    have e5 : decide (29 < d) = false := by simpa using hd29
    have e5' : decide ((29 : Int) < (d : Int)) = false := by simp; omega
    have HE3 := Lib.hid (HE2.out.trans (if_neg (by omega)))
    clear HE2
    go_wp2_with fail
    clear c4 f4 e5 e5'
    refine (rdistance_calls w3 g B M c bs (q + nn) out most ob d H3.out (by omega)).mono ?_
    rintro _ w4 ⟨fv, p4, e4, rfl, hh4, k4, n04, n14, hc4⟩
    have H4 := Lib.hid hh4
    have K4 := Lib.hid (K3.out.trans (FR.of_keeps k4))
    obtain ⟨-, -, -, c4, A5, c5, cc5, -⟩ := hh4.cells
    have f4 := hh4.free 4
    rcases hc4 with ⟨hf4, rfl, hfv, rfl⟩ | ⟨hf4, rfl⟩
    rotate_left
    · have HR2 := Lib.hid (HE3.out.trans (if_pos (show 8 * bs.length < q + nn + distK d by have := HML.out; omega)))
      clear hh4 k4 HE3 H3 K3 cc5
      go_wp2_with fail
      clear c4 f4
      go_loopg [11] 1 (fun k iv wr => iv = .int .i64 0 ∧ 0 < k ∧ Hid (RD wr g B M c bs p4 out most 55 ob) ∧ Hid (FR g ob ob w wr))
      case atStart => exact ⟨rfl, by omega, H4, K4⟩
      case round =>
        obtain ⟨rfl, hk, HX, KX⟩ := hrel
        obtain ⟨-, -, -, c4, -⟩ := HX.out.cells
        by_cases hN : 0 < N
        · have e1 : decide ((0 : Int) < (N : Int)) = true := by simp; omega
          go_wp2_with fail
          go_end0
          exact rpart_err HR2.out (by decide) HX.out KX.out
        · have e1 : decide ((0 : Int) < (N : Int)) = false := by simp; omega
          go_wp2_with fail
          go_end0
          exact rpart_err HR2.out (by decide) HX.out KX.out
    have HE4 := Lib.hid (HE3.out.trans (if_neg (show ¬ 8 * bs.length < q + nn + distK d by have := HML.out; omega)))
    rw [← hfv] at HE4
    obtain ⟨F, hF⟩ : ∃ F : Nat, fv = F := ⟨fv.toNat, by omega⟩
    subst hF
    rw [Int.toNat_natCast] at HE4
    obtain ⟨q3, hq3⟩ : ∃ x, x = q + nn + distK d := ⟨_, rfl⟩
    rw [← hq3] at HE4 H4
    obtain ⟨Lo, hLo⟩ : ∃ L, L = out.length := ⟨_, rfl⟩
    have HLo := Lib.hid hLo
    rw [← hLo] at cc5 HE4
    have hF1 : 1 ≤ F := by
      have h1 := (numB_lt bs (q + nn) (distK d)).1
      have h2 : 1 ≤ distBase d := by unfold distBase; split <;> omega
      omega
    clear hh4 k4 HE3 H3 K3 hLo hfv hq3 hf4
    by_cases hfar : Lo < F
    · have HR2 := Lib.hid (HE4.out.trans (if_pos (by omega)))
      have e6 : decide (Lo < F) = true := by simpa using hfar
      have e6' : decide ((Lo : Int) < (F : Int)) = true := by simp; omega
      have HX := Lib.hid (H4.out.wrong 54)
      have KX := Lib.hid (K4.out.trans (FR.of_keeps (keepsCell w4 g 4 (.int .i64 54))))
      clear HE4
      go_wp2_with fail
      clear c4 f4 cc5 e6 e6'
      go_loopg [11] 1 (fun k iv wr => iv = .int .i64 0 ∧ 0 < k ∧ Hid (RD wr g B M c bs q3 out most 54 ob) ∧ Hid (FR g ob ob w wr))
      case atStart => exact ⟨rfl, by omega, HX, KX⟩
      case round =>
        clear HX KX
        obtain ⟨rfl, hk, HX, KX⟩ := hrel
        obtain ⟨-, -, -, c4, -⟩ := HX.out.cells
        by_cases hN : 0 < N
        · have e1 : decide ((0 : Int) < (N : Int)) = true := by simp; omega
          go_wp2_with fail
          go_end0
          exact rpart_err HR2.out (by decide) HX.out KX.out
        · have e1 : decide ((0 : Int) < (N : Int)) = false := by simp; omega
          go_wp2_with fail
          go_end0
          exact rpart_err HR2.out (by decide) HX.out KX.out
    have e6 : decide (Lo < F) = false := by simpa using hfar
    have e6' : decide ((Lo : Int) < (F : Int)) = false := by simp; omega
    have HE5 := Lib.hid (HE4.out.trans (if_neg (by omega)))
    have HFL : Hid (F ≤ out.length) := Lib.hid (by have := HLo.out; omega)
    clear HE4
    go_wp2_with fail
    clear c4 f4 cc5 e6 e6' hfar HLo
    go_loopw [11] (fun iv wr => ∃ (i : Nat) (o : List Int) (e : Int) (ob' : Option Nat), i ≤ N ∧ iv = .int .i64 i ∧ Hid ((e = 0 ∧ layN F most N out = layN F most (N - i) o ∧ F ≤ o.length) ∨ (e = 56 ∧ layN F most N out = (o, 56))) ∧
      Hid (RD wr g B M c bs q3 o most e ob') ∧ Hid (FR g ob ob' w wr)) (fun iv _ => N - (intOf iv).toNat)
    case atStart => exact ⟨0, out, 0, ob, by omega, rfl, Lib.hid (.inl ⟨rfl, rfl, HFL.out⟩), H4, K4⟩
    case round =>
      clear H4 K4 HFL
      obtain ⟨i, o, e, ob', hi, rfl, HS2, H, K⟩ := hrel
      obtain ⟨-, -, -, c4, A4, c44, hc1, hri⟩ := H.out.cells
      rcases HS2.out with ⟨rfl, hsf, hfl⟩ | ⟨rfl, hsf⟩
      · by_cases hlt : i < N
        · have e0 : decide (i < N) = true := by simpa using hlt
          have e0' : decide ((i : Int) < (N : Int)) = true := by simp; omega
          have HL' : Hid (layN F most N out = if most ≤ o.length then (o, 56) else layN F most (N - (i + 1)) (o ++ [nth o (o.length - F)])) := Lib.hid (by rw [hsf, show N - i = (N - (i + 1)) + 1 by omega, layN])
          have HFL := Lib.hid hfl
          obtain ⟨Lo2, hLo⟩ : ∃ L, L = o.length := ⟨_, rfl⟩
          have HLo := Lib.hid hLo
          rw [← hLo] at hc1 hri hfl
          have hLb : Lo2 ≤ 16384 := by have := H.out.cap; have := H.out.mx; omega
          clear hLo hsf HS2
          obtain ⟨b4, o4, hA4, hcc⟩ := hri.at (show Lo2 - F < Lo2 by omega)
          subst hA4
          obtain ⟨x, hx⟩ : ∃ x, x = nth o (Lo2 - F) := ⟨_, rfl⟩
          rw [← hx] at hcc
          have HX : Hid (x = nth o (o.length - F)) := Lib.hid (by rw [hx, HLo.out])
          clear hx hri
          have s1 : IntKind.i64.wrap ((Lo2 : Int) - (F : Int)) = (Lo2 : Int) - (F : Int) := IntWalk.i64_in _ (by omega)
          have s2 : (0 : Int) ≤ (Lo2 : Int) - (F : Int) := by omega
          have s3 : (Lo2 : Int) - (F : Int) < (Lo2 : Int) := by omega
          have s4 : ((Lo2 : Int) - (F : Int)).toNat = Lo2 - F := by omega
          go_wp2_with fail
          go_still_tail 14, (by kernel_rfl)
          change wpList _ _ _ _ _ wr.drew
          have hdr := (Keeps.refl [] wr).drew
          have Hd := Lib.hid (H.out.keeps hdr)
          have Kd := Lib.hid (K.out.trans (FR.of_nil hdr))
          clear hdr H K hc1 hcc s1 s2 s3 s4 c4
          go_wp2_with fail
          refine (rlay_calls wr.drew g B M c bs q3 o most 0 ob' x Hd.out).mono ?_
          rintro _ w5 ⟨rfl, hl5⟩
          rcases hl5 with ⟨z1, _⟩ | ⟨-, z2, z3, z4⟩ | ⟨-, z2, ob2, z3, z4⟩
          · exact absurd rfl z1
          · have H5 := Lib.hid z3
            have K5 := Lib.hid (Kd.out.trans z4)
            have HS3 : Hid (layN F most N out = (o, 56)) := Lib.hid (by rw [HL'.out, if_pos z2])
            clear z2 z3 z4 Hd Kd HL'
            go_wp2_with fail
            go_roundw
            case rel => exact ⟨i + 1, o, 56, ob', by omega, by go_num, Lib.hid (.inr ⟨rfl, HS3.out⟩), H5, K5⟩
            case measure => simp [intOf]; omega
          · have H5 := Lib.hid z3
            have K5 := Lib.hid (Kd.out.trans z4)
            have HS3 : Hid (layN F most N out = layN F most (N - (i + 1)) (o ++ [x])) := Lib.hid (by rw [HL'.out, if_neg (by omega), HX.out])
            clear z2 z3 z4 Hd Kd HL'
            go_wp2_with fail
            go_roundw
            case rel => exact ⟨i + 1, o ++ [x], 0, ob2, by omega, by go_num, Lib.hid (.inl ⟨rfl, HS3.out, by have := HFL.out; rw [List.length_append]; omega⟩), H5, K5⟩
            case measure => simp [intOf]; omega
        · obtain rfl : i = N := by omega
          have e0 : decide (i < i) = false := by simp
          have e0' : decide ((i : Int) < (i : Int)) = false := by simp
          have HR2 : Hid (copyF dist bs most s out p = (o, q3, 0)) := Lib.hid (by rw [HE5.out, hsf, Nat.sub_self, layN, if_neg (by simp)])
          clear hsf HS2 HE5 hri hc1
          go_wp2_with fail
          go_end0
          exact rpart_ok HR2.out H.out K.out
      · have HR2 : Hid (copyF dist bs most s out p = (o, 0, 56)) := Lib.hid (by rw [HE5.out, hsf]; exact if_pos (show (56 : Int) ≠ 0 by decide))
        clear hsf HS2 HE5 hri hc1
        by_cases hlt : i < N
        · have e0 : decide (i < N) = true := by simpa using hlt
          have e0' : decide ((i : Int) < (N : Int)) = true := by simp; omega
          go_wp2_with fail
          go_end0
          exact rpart_err HR2.out (by decide) H.out K.out
        · have e0 : decide (i < N) = false := by simpa using hlt
          have e0' : decide ((i : Int) < (N : Int)) = false := by simp; omega
          go_wp2_with fail
          go_end0
          exact rpart_err HR2.out (by decide) H.out K.out
end Go.Proofs.YtkpabdjniiepkaaGreatDoor

set_option linter.unusedVariables false
set_option linter.unusedSimpArgs false
namespace Go.Proofs.YtkpabdjniiepkaaGreatDoor
open Go.RowKit
set_option maxHeartbeats 400000 in
theorem power_calls (w : World) (n : Nat) (hn : n ≤ 40) :
    Calls Tryz.prog 99 #[.int .i64 n] w fun e w' => e = .returned (.int .i64 ((2 ^ n : Nat) : Int)) ∧ Dr w w' := by
  go_enter Tryz.func99, Tryz.ntmps99
  go_wp2_with fail
  go_loopw [3, 4] (fun v i wr => ∃ (k : Nat) (m : Nat), k ≤ n ∧ i = .int .i64 k ∧ v = .int .i64 m ∧ Hid (m = 2 ^ k) ∧ Hid (Dr w wr)) (fun _ i _ => n - (intOf i).toNat)
  case atStart => exact ⟨0, 1, by omega, rfl, rfl, Lib.hid rfl, ⟨0, rfl⟩⟩
  case round =>
    obtain ⟨k, m, hk, rfl, rfl, HM, HD⟩ := hrel
    obtain ⟨q, rfl⟩ := HD.out
    clear HD
    have hb : m ≤ 1099511627776 := by
      rw [HM.out]
      exact Nat.le_trans (Nat.pow_le_pow_right (by decide) (show k ≤ 40 by omega)) (by decide)
    by_cases hlt : k < n
    · go_wp2_with fail
      go_roundw
      case rel => exact ⟨k + 1, 2 * m, by omega, by go_num, by go_num, Lib.hid (by rw [HM.out, Nat.pow_succ]; omega), ⟨_, rfl⟩⟩
      case measure => simp [intOf]; omega
    · obtain rfl : k = n := by omega
      go_wp2_with fail
      go_ret
      rw [← HM.out]
      exact ⟨rfl, _, rfl⟩
theorem power_calls' (w : World) (n : Nat) (ni : Int) (hi : ni = n) (hn : n ≤ 40) :
    Calls Tryz.prog 99 #[.int .i64 ni] w fun e w' => e = .returned (.int .i64 ((2 ^ n : Nat) : Int)) ∧ Dr w w' := by
  subst hi; exact power_calls w n hn
set_option maxHeartbeats 400000 in
theorem used_calls (w : World) (A : Option Addr) (n c : Nat) (l : List Int) (hl : RI .i64 w A n l) (hn : n ≤ 100000) :
    Calls Tryz.prog 104 #[.slice A n c] w fun e w' => e = .returned (.int .i64 (usedF l)) ∧ Dr w w' := by
  have HLL := Lib.hid hl.len
  have HL := Lib.hid hl
  clear hl
  go_enter Tryz.func104, Tryz.ntmps104
  go_wp2_with fail
  go_loopw [3, 4] (fun v i wr => ∃ k : Nat, k ≤ n ∧ i = .int .i64 k ∧ v = .int .i64 (usedF (l.take k)) ∧ Hid (Dr w wr)) (fun _ i _ => n - (intOf i).toNat)
  case atStart => exact ⟨0, by omega, rfl, rfl, ⟨0, rfl⟩⟩
  case round =>
    obtain ⟨k, hk, rfl, rfl, HD⟩ := hrel
    obtain ⟨q, rfl⟩ := HD.out
    clear HD
    have hu := usedF_le (l.take k)
    have htk : (l.take k).length = k := by rw [List.length_take]; have := HLL.out; omega
    rw [htk] at hu
    clear htk
    by_cases hlt : k < n
    · obtain ⟨b, o, rfl, hc⟩ := HL.out.at hlt
      have US := Lib.hid (usedF_snoc l k (by have := HLL.out; omega))
      generalize usedF (l.take k) = U at *
      by_cases hz : 0 < nth l k
      · have e3 : decide (0 < nth l k) = true := by simpa using hz
        have HU : Hid (usedF (l.take (k + 1)) = U + 1) := by have := US.out; rwa [if_pos hz] at this
        go_wp2_with fail
        go_roundw
        case rel => exact ⟨k + 1, by omega, by go_num, by rw [HU.out]; go_num, ⟨_, rfl⟩⟩
        case measure => simp [intOf]; omega
      · have e3 : decide (0 < nth l k) = false := by simpa using hz
        have HU : Hid (usedF (l.take (k + 1)) = U) := by have := US.out; rwa [if_neg hz, Nat.add_zero] at this
        go_wp2_with fail
        go_roundw
        case rel => exact ⟨k + 1, by omega, by go_num, by rw [HU.out], ⟨_, rfl⟩⟩
        case measure => simp [intOf]; omega
    · obtain rfl : k = n := by omega
      have htk : l.take k = l := List.take_of_length_le (by have := HLL.out; omega)
      rw [htk] at hu ⊢
      clear htk
      go_wp2_with fail
      go_ret
      exact ⟨rfl, _, rfl⟩
set_option maxHeartbeats 400000 in
theorem measure_calls (w : World) (A : Option Addr) (n c : Nat) (l : List Int) (hl : RI .i64 w A n l) (hn : n ≤ 100000) (hok : l.all okLen = true) :
    Calls Tryz.prog 103 #[.slice A n c] w fun e w' => e = .returned (.int .i64 (measF l)) ∧ Dr w w' := by
  have HLL := Lib.hid hl.len
  have HL := Lib.hid hl
  have HOK := Lib.hid hok
  clear hl hok
  go_enter Tryz.func103, Tryz.ntmps103
  go_wp2_with fail
  go_loopw [3, 4] (fun v i wr => ∃ k : Nat, k ≤ n ∧ i = .int .i64 k ∧ v = .int .i64 (measF (l.take k)) ∧ Hid (Dr w wr)) (fun _ i _ => n - (intOf i).toNat)
  case atStart => exact ⟨0, by omega, rfl, rfl, ⟨0, rfl⟩⟩
  case round =>
    obtain ⟨k, hk, rfl, rfl, HD⟩ := hrel
    obtain ⟨q, rfl⟩ := HD.out
    clear HD
    have hu := measF_le (l.take k) (by rw [List.all_eq_true]; intro x hx; exact List.all_eq_true.1 HOK.out x (List.mem_of_mem_take hx))
    have htk : (l.take k).length = k := by rw [List.length_take]; have := HLL.out; omega
    rw [htk] at hu
    clear htk
    by_cases hlt : k < n
    · obtain ⟨b, o, rfl, hc⟩ := HL.out.at hlt
      have hx : okLen (nth l k) = true := by rw [nth_lt (by have := HLL.out; omega)]; exact List.all_eq_true.1 HOK.out _ (List.getElem_mem _)
      have MS := Lib.hid (measF_snoc l k (by have := HLL.out; omega))
      have hple := part_le (nth l k) hx
      have hx1 : 0 ≤ nth l k ∧ nth l k ≤ 15 := by simpa [okLen] using hx
      obtain ⟨hx2, hx3⟩ := hx1
      clear hx
      generalize measF (l.take k) = M at *
      by_cases hz : 0 < nth l k
      · have e3 : decide (0 < nth l k) = true := by simpa using hz
        have HP : Hid (((2 ^ (15 - nth l k).toNat : Nat) : Int) = (part (nth l k) : Int)) := by show _ = _; unfold part; rw [if_pos hz]
        go_wp2_with fail
        refine (power_calls' _ (15 - nth l k).toNat _ (by omega) (by omega)).mono ?_
        rintro e w' ⟨rfl, hd⟩
        rw [HP.out]
        have HD2 := Lib.hid (Dr.trans ⟨q, rfl⟩ hd)
        clear hd
        go_wp2_with fail
        go_roundw
        case rel => exact ⟨k + 1, by omega, by go_num, by rw [MS.out]; go_num, HD2⟩
        case measure => simp [intOf]; omega
      · have e3 : decide (0 < nth l k) = false := by simpa using hz
        have HM : Hid (measF (l.take (k + 1)) = M) := by have := MS.out; rwa [part_zero _ hz, Nat.add_zero] at this
        go_wp2_with fail
        go_roundw
        case rel => exact ⟨k + 1, by omega, by go_num, by rw [HM.out], ⟨_, rfl⟩⟩
        case measure => simp [intOf]; omega
    · obtain rfl : k = n := by omega
      have htk : l.take k = l := List.take_of_length_le (by have := HLL.out; omega)
      rw [htk] at hu ⊢
      clear htk
      go_wp2_with fail
      go_ret
      exact ⟨rfl, _, rfl⟩
end Go.Proofs.YtkpabdjniiepkaaGreatDoor

set_option linter.unusedVariables false
set_option linter.unusedSimpArgs false
namespace Go.Proofs.YtkpabdjniiepkaaGreatDoor
open Go.RowKit
theorem msb_bit (c : Int) (j : Nat) (h : 0 ≤ c) : IntKind.u8.wrap (c / 2 ^ j % 2) = c / 2 ^ j % 2 := by rw [IntKind.wrap_u8]; omega
set_option maxRecDepth 100000 in
set_option maxHeartbeats 1000000 in
theorem rows_calls (w : World) (A : Option Addr) (n c : Nat) (l : List Int) (hl : RI .i64 w A n l) (hn : n ≤ 288) (hok : l.all okLen = true) :
    Calls Tryz.prog 80 #[.slice A n c] w fun e w' => e = .returned (.slice (some ⟨w.heap.size, 0, none⟩) n n) ∧ RB w' w.heap.size n (rowsF l) ∧ Below w.heap.size w w' := by
  have HL := Lib.hid hl
  have HLL := Lib.hid hl.len
  have HOK := Lib.hid hok
  clear hl hok
  obtain ⟨g, hg⟩ : ∃ g, g = w.heap.size := ⟨_, rfl⟩
  have HG := Lib.hid hg
  clear hg
  have hmk := fun w => make_rows w n (by omega)
  go_enter Tryz.func80, Tryz.ntmps80
  go_wp2_with fail
  rw [← HG.out]
  clear hmk
  have hw1 : w.alloc (.cells (Array.replicate n (Value.slice none 0 0)) 22) = w.alloc (.cells (List.replicate n (Value.slice none 0 0)).toArray 22) := by rw [List.toArray_replicate]
  rw [hw1]
  clear hw1
  have R0 : Hid (RB (w.alloc (.cells (List.replicate n (Value.slice none 0 0)).toArray 22)) g n (rowsAt l 1 0)) := by
    rw [rowsAt_zero, HLL.out, HG.out]; exact RB.new w n
  have B0 : Hid (Below g w (w.alloc (.cells (List.replicate n (Value.slice none 0 0)).toArray 22))) := by rw [HG.out]; exact Lib.hid ((Below.refl _ _).alloc (Nat.le_refl _) _)
  generalize hw0 : w.alloc (.cells (List.replicate n (Value.slice none 0 0)).toArray 22) = w0 at *
  have HW0 := Lib.hid hw0
  clear hw0
  go_loopw [4, 5, 6] (fun cv lv nv wr => ∃ (m last : Nat) (code : Int), 1 ≤ m ∧ m ≤ 16 ∧ nv = .int .i64 m ∧ lv = .int .i64 last ∧ cv = .int .i64 code ∧ Hid (m < 16 → Last l m 0 code last) ∧ Hid (RB wr g n (rowsAt l m 0)) ∧ Hid (Below g w wr)) (fun _ _ nv _ => 16 - (intOf nv).toNat)
  case atStart => exact ⟨1, 0, 0, by omega, by omega, rfl, rfl, rfl, Lib.hid (fun _ => last_start l), R0, B0⟩
  case round =>
    clear R0 B0
    obtain ⟨m, last0, code0, hm1, hm2, rfl, rfl, rfl, HLS0, HR0, HB0⟩ := hrel
    by_cases hm : m ≤ 15
    · obtain ⟨wo, rfl⟩ : ∃ wo : World, wo = wr := ⟨_, rfl⟩
      have HLS1 := Lib.hid (HLS0.out (by omega))
      clear HLS0
      have e0 : decide ((m : Int) ≤ 15) = true := by simp; omega
      go_wp2_with fail
      go_loopw [4, 5, 7] (fun cv lv iv wr => ∃ (i last : Nat) (code : Int), i ≤ n ∧ iv = .int .i64 i ∧ lv = .int .i64 last ∧ cv = .int .i64 code ∧ Hid (Last l m i code last) ∧ Hid (RB wr g n (rowsAt l m i)) ∧ Hid (Below g w wr)) (fun _ _ iv _ => n - (intOf iv).toNat)
      case atStart => exact ⟨0, last0, code0, by omega, rfl, rfl, rfl, HLS1, HR0, HB0⟩
      case round =>
        clear HLS1 HR0 HB0
        obtain ⟨i, last, code, hi, rfl, rfl, rfl, HLS, HR, HB⟩ := hrel
        by_cases hlt : i < n
        · obtain ⟨b, o, rfl, hc⟩ := HL.out.at hlt
          have hc := (Keeps.of_below (S := []) (HG.out ▸ HB.out)).cell (by simp) hc
          by_cases hx : nth l i = m
          · have e1 : (nth l i != (m : Int)) = false := by simpa using hx
            have HX := Lib.hid hx
            clear hx
            have hil : Hid (i < l.length) := by have := HLL.out; show _ < _; omega
            go_upto_if 31 with (fail)
            go_cut [4] (fun cv wc => ∃ d : Int, cv = .int .i64 d ∧ 0 ≤ d ∧ d ≤ 50000000 ∧ Hid (d = codeI l i) ∧ Hid (Dr wr wc))
            case first =>
              have hbd := posF_bd l (by have := HLL.out; omega) m i (by omega)
              rw [← posF_code l m i HX.out] at hbd
              obtain ⟨hb0, hb1⟩ := hbd
              have hlast : last ≤ m := HLS.out.2.2.1
              have hcd0 : 0 ≤ code := HLS.out.1
              have hcd1 : code ≤ 50000000 := HLS.out.2.1
              by_cases hz : last = 0
              · have HC := Lib.hid (last_code0 HLS.out HX.out hz)
                subst hz
                go_wp2_with fail
                go_meet
                case rel => exact ⟨code, rfl, by have := HC.out; omega, by have := HC.out; omega, HC, Lib.hid (Dr.refl _)⟩
              · have e2 : 0 < last := by omega
                have HC := Lib.hid (last_code HLS.out HX.out hz)
                have hp : Hid ((2 ^ (m - last) : Int) = ((2 ^ (m - last) : Nat) : Int)) := by show _ = _; simp
                rw [hp.out] at HC
                clear hz hp
                go_wp2_with fail
                refine (power_calls' _ (m - last) _ (by omega) (by omega)).mono ?_
                rintro _ w2 ⟨rfl, hd2⟩
                have HD2 := Lib.hid hd2
                clear hd2
                generalize 2 ^ (m - last) = P at *
                have hwr : IntKind.i64.wrap ((code + 1) * (P : Int)) = (code + 1) * (P : Int) := IntWalk.i64_in _ (by rw [HC.out]; omega)
                go_wp2_with fail
                go_meet
                case rel => exact ⟨_, rfl, by rw [HC.out]; omega, by rw [HC.out]; omega, HC, HD2⟩
            case rest =>
              obtain ⟨d, rfl, hd0, hd1, HD, HDR⟩ := hcut
              obtain ⟨q1, rfl⟩ := HDR.out
              clear HDR
              obtain ⟨h, hh⟩ : ∃ h, h = wr.heap.size := ⟨_, rfl⟩
              have HH := Lib.hid hh
              clear hh
              have hmk := fun w => make_ints (P := Tryz.prog) w 22 5 .u8 1 Tryz.underlying22 info_u8 (m : Int) m rfl (by omega) (by omega)
              have HN : Hid (Blk ((wr.drewN q1).alloc (.cells (ints .u8 (List.replicate m 0)).toArray 5)) h 5 (ints .u8 (msbP d m 0))) := by
                rw [msbP_zero, HH.out]; exact blk_new (wr.drewN q1) _ _
              have HNB : Hid (Below h wr ((wr.drewN q1).alloc (.cells (ints .u8 (List.replicate m 0)).toArray 5))) := by rw [HH.out]; exact (((Keeps.refl [] wr).drewN q1).alloc _).below
              clear hc
              go_wp2_with fail
              rw [← HH.out]
              obtain ⟨wm, rfl⟩ : ∃ wm : World, wm = wr := ⟨_, rfl⟩
              go_loopw [9, 10] (fun cv kv wx => ∃ (j K : Nat) (x : Int), K ≤ m ∧ kv = .int .i64 ((K : Int) - 1) ∧ cv = .int .i64 x ∧ 0 ≤ x ∧ x ≤ 50000000 ∧ Hid (K + j = m) ∧ Hid (x = d / 2 ^ j) ∧ Hid (Blk wx h 5 (ints .u8 (msbP d m j))) ∧ Hid (Below h wm wx)) (fun _ kv _ => (intOf kv + 1).toNat)
              case atStart => exact ⟨0, m, d, by omega, by go_num, rfl, hd0, hd1, Lib.hid rfl, Lib.hid (by simp), HN, HNB⟩
              case round =>
                clear HN HNB
                obtain ⟨j, K, x, hK, rfl, rfl, hx0, hx1, HJ, HX2, HBK, HBW⟩ := hrel
                by_cases hk : 0 < K
                · obtain ⟨k, rfl⟩ : ∃ k, K = k + 1 := ⟨K - 1, by omega⟩
                  have hk1 : ((k + 1 : Nat) : Int) - 1 = k := by omega
                  rw [hk1]
                  clear hk1
                  have hfr := HBK.out.frozen k
                  have hcl := HBK.out.cellI (j := k) (by rw [msbP_len]; omega)
                  generalize nth (msbP d m j) k = z at *
                  have HBK2 : Hid (Blk (wr.setCell ⟨h, k, none⟩ (.int .u8 (x % 2))) h 5 (ints .u8 (msbP d m (j + 1)))) := by
                    have := HBK.out.set k (.int .u8 (x % 2))
                    rw [set_ints] at this
                    rw [msbP_step d m j (by have := HJ.out; omega), ← HX2.out, show m - 1 - j = k by have := HJ.out; omega]; exact this
                  have HBW2 := Lib.hid (HBW.out.setCell (p := ⟨h, k, none⟩) (Nat.le_refl _) (.int .u8 (x % 2)))
                  have e3 : x.tmod 2 = x % 2 := by rw [Int.tmod_eq_emod_of_nonneg hx0]
                  have e4 : x % 2 % 256 = x % 2 := by omega
                  clear HBK HBW
                  go_wp2_with fail
                  go_roundw
                  case rel => exact ⟨j + 1, k, x / 2, by omega, rfl, rfl, by omega, by omega, Lib.hid (by have := HJ.out; omega), Lib.hid (by rw [HX2.out, div_two]), HBK2, HBW2⟩
                  case measure => simp [intOf]
                · obtain rfl : K = 0 := by omega
                  obtain rfl : m = j := by have := HJ.out; omega
                  rw [msbP_all] at HBK
                  have HRX : Hid (RB wr g n (rowsAt l m i)) := HR.out.below (HH.out ▸ HBW.out)
                  have HWW := Lib.hid (HB.out.trans (HBW.out.mono (by have := HR.out.lt; rw [HH.out]; omega)))
                  have hgs : Hid (g ≤ h) := by have := HR.out.lt; rw [HH.out]; show _ ≤ _; omega
                  obtain ⟨A', c', hcl, -, -⟩ := HRX.out.at hlt
                  have hfr := HRX.out.free i
                  have HOWN : Hid (wr.ownsRow (g + 1) 5 1 (.slice (some ⟨h, 0, none⟩) m m) m (ints .u8 (msbF d m))) := own_of_blkK HBK.out (msbF_len d m) (by have := HR.out.lt; rw [HH.out]; omega) (by omega)
                  have HSET : Hid (RB (wr.setCell ⟨g, i, none⟩ (.slice (some ⟨h, 0, none⟩) m m)) g n (rowsAt l m (i + 1))) := by
                    rw [rowsAt_step l m i hil.out hm1 HX.out, ← HD.out]
                    exact HRX.out.set i _ _ (by rw [msbF_len]; exact HOWN.out)
                  have HSW := Lib.hid (HWW.out.setCell (p := ⟨g, i, none⟩) (Nat.le_refl _) (.slice (some ⟨h, 0, none⟩) m m))
                  have HLS2 : Hid (Last l m (i + 1) d m) := by rw [HD.out]; exact last_step (by have := hil.out; have := HLL.out; omega) (by omega) hm1 hil.out HX.out
                  clear HRX HWW HBK HBW HB HR HOWN HLS
                  go_wp2_with fail
                  go_roundw
                  case rel => exact ⟨i + 1, m, d, by omega, by go_num, rfl, rfl, HLS2, HSET, HSW⟩
                  case measure => simp [intOf]; omega
          · have e1 : (nth l i != (m : Int)) = true := by simpa using hx
            have HX := Lib.hid hx
            have HS := Lib.hid (rowsAt_skip l m i hx)
            clear hx
            go_wp2_with fail
            go_roundw
            case rel => exact ⟨i + 1, last, code, by omega, by go_num, rfl, rfl, Lib.hid (last_skip HLS.out (by omega) (by have := HLL.out; omega) HX.out), by rw [HS.out]; exact HR, HB⟩
            case measure => simp [intOf]; omega
        · obtain rfl : i = n := by omega
          go_wp2_with fail
          go_roundw
          case rel => exact ⟨m + 1, last, code, by omega, by omega, by go_num, rfl, rfl, Lib.hid (fun h => last_next (HLL.out ▸ HLS.out) (by omega)), by rw [← rowsAt_next, HLL.out]; exact HR, HB⟩
          case measure => simp [intOf]; omega
    · obtain rfl : m = 16 := by omega
      have HR1 : Hid (RB wr g n (rowsF l)) := by rw [← rowsAt_all l HOK.out]; exact HR0
      go_wp2_with fail
      go_ret
      refine ⟨?_, HG.out ▸ HR1.out, HG.out ▸ HB0.out⟩
      rw [← HG.out]; rfl
end Go.Proofs.YtkpabdjniiepkaaGreatDoor
