import Derived.Test.YtcblibefmclloaaDoorBase
import Derived.Test.YtcblibefmclloaaDoorMAdd
set_option linter.unusedVariables false
set_option linter.unusedSimpArgs false
namespace Go.Proofs.YtcblibefmclloaaDoor
open Go.RowKit
def saidV : Option (Int × Nat) → Value
  | some (v, k) => .tuple #[.int .i64 v, .int .i64 k, .bool true]
  | none => .tuple #[.int .i64 0, .int .i64 0, .bool false]
theorem saidV_none {r : Option (Int × Nat)} (h : r = none) : Ending.returned (.tuple #[.int .i64 0, .int .i64 0, .bool false]) = .returned (saidV r) := by rw [h]; rfl
theorem saidV_some {r : Option (Int × Nat)} {v ki : Int} {k : Nat} (h : r = some (v, k)) (hk : ki = k) : Ending.returned (.tuple #[.int .i64 v, .int .i64 ki, .bool true]) = .returned (saidV r) := by rw [h, hk]; rfl
set_option maxRecDepth 100000 in
set_option maxHeartbeats 1000000 in
theorem says_none (w : World) (len c : Nat) (A : Option Addr) (l : List Int) (sym extra : Int)
    (hs : sym < 0 ∨ 18 < sym ∨ (0 ≤ sym ∧ sym ≤ 15 ∧ (extra == 0) = false) ∨ (sym = 16 ∧ extra < 0) ∨ (sym = 16 ∧ 0 ≤ extra ∧ 3 < extra) ∨ (sym = 17 ∧ extra < 0) ∨ (sym = 17 ∧ 0 ≤ extra ∧ 7 < extra) ∨ (sym = 18 ∧ extra < 0) ∨ (sym = 18 ∧ 0 ≤ extra ∧ 127 < extra)) :
    Calls Tryd.prog 78 #[.agg #[.int .i64 sym, .int .i64 extra], .slice A len c] w fun e w' => e = .returned (saidV (sayF l sym extra)) ∧ Keeps [] w w' := by
  have hr : sayF l sym extra = none := by
    rcases hs with h | h | ⟨h1, h2, h3⟩ | ⟨rfl, h⟩ | ⟨rfl, _, h⟩ | ⟨rfl, h⟩ | ⟨rfl, _, h⟩ | ⟨rfl, h⟩ | ⟨rfl, _, h⟩
    · exact sayF_lit_none (by omega) (Or.inl h)
    · exact sayF_big h
    · exact sayF_lit_none h2 (Or.inr (by simpa using h3))
    · exact sayF_16_none (Or.inl h)
    · exact sayF_16_none (Or.inr (Or.inl h))
    · exact sayF_17_none (Or.inl h)
    · exact sayF_17_none (Or.inr h)
    · exact sayF_18_none (Or.inl h)
    · exact sayF_18_none (Or.inr h)
  have HRR := Lib.hid hr
  clear hr
  rcases hs with h | h | ⟨h1, h2, h3⟩ | ⟨rfl, h⟩ | ⟨rfl, h0, h⟩ | ⟨rfl, h⟩ | ⟨rfl, h0, h⟩ | ⟨rfl, h⟩ | ⟨rfl, h0, h⟩
  case' inl =>
    have e1 : (sym == 16) = false := by simp; omega
    have e2 : (sym == 17) = false := by simp; omega
    have e3 : (sym == 18) = false := by simp; omega
  case' inr.inl =>
    have e1 : (sym == 16) = false := by simp; omega
    have e2 : (sym == 17) = false := by simp; omega
    have e3 : (sym == 18) = false := by simp; omega
  case' inr.inr.inl =>
    have e1 : (sym == 16) = false := by simp; omega
    have e2 : (sym == 17) = false := by simp; omega
    have e3 : (sym == 18) = false := by simp; omega
  all_goals
    go_enter Tryd.func78, Tryd.ntmps78
    go_wp2
    go_ret3
    exact ⟨saidV_none HRR.out, by repeat (first | exact Keeps.refl _ _ | apply Keeps.drewN | apply Keeps.drew | apply Keeps.alloc)⟩
set_option maxRecDepth 100000 in
set_option maxHeartbeats 1000000 in
theorem says_none16 (w : World) (c : Nat) (A : Option Addr) (extra : Int) (h0 : 0 ≤ extra) (h3 : extra ≤ 3) :
    Calls Tryd.prog 78 #[.agg #[.int .i64 16, .int .i64 extra], .slice A 0 c] w fun e w' => e = .returned (saidV (sayF [] 16 extra)) ∧ Keeps [] w w' := by
  have HRR := Lib.hid (sayF_16_none (l := []) (extra := extra) (Or.inr (Or.inr rfl)))
  go_enter Tryd.func78, Tryd.ntmps78
  go_wp2
  go_ret3
  exact ⟨saidV_none HRR.out, by repeat (first | exact Keeps.refl _ _ | apply Keeps.drewN | apply Keeps.drew | apply Keeps.alloc)⟩
set_option maxRecDepth 100000 in
set_option maxHeartbeats 1000000 in
theorem says_lit (w : World) (len c : Nat) (A : Option Addr) (l : List Int) (sym : Int) (h0 : 0 ≤ sym) (h15 : sym ≤ 15) :
    Calls Tryd.prog 78 #[.agg #[.int .i64 sym, .int .i64 0], .slice A len c] w fun e w' => e = .returned (saidV (sayF l sym 0)) ∧ Keeps [] w w' := by
  have HRR := Lib.hid (sayF_lit (l := l) h0 h15)
  go_enter Tryd.func78, Tryd.ntmps78
  go_wp2
  go_ret3
  exact ⟨saidV_some HRR.out rfl, by repeat (first | exact Keeps.refl _ _ | apply Keeps.drewN | apply Keeps.drew | apply Keeps.alloc)⟩
set_option maxRecDepth 100000 in
set_option maxHeartbeats 1000000 in
theorem says_16 (w : World) (len c : Nat) (A : Option Addr) (l : List Int) (extra : Int) (hl : RI .i64 w A len l) (hp : 0 < len) (hn : len ≤ 1000000) (h0 : 0 ≤ extra) (h3 : extra ≤ 3) :
    Calls Tryd.prog 78 #[.agg #[.int .i64 16, .int .i64 extra], .slice A len c] w fun e w' => e = .returned (saidV (sayF l 16 extra)) ∧ Keeps [] w w' := by
  have hll := hl.len
  have HRR := Lib.hid (sayF_16 (l := l) h0 h3 (by rintro rfl; simp at hll; omega))
  obtain ⟨b, o, rfl, hlast⟩ := hl.at (show len - 1 < len by omega)
  have hlast' := fun ob => ((Keeps.refl [] w).alloc ob).cell (by simp) hlast
  have HE : Hid (nth l (len - 1) = l.getD (l.length - 1) 0) := by rw [hll]; rfl
  have e2 : IntKind.i64.wrap ((len : Int) - 1) = (len : Int) - 1 := IntWalk.i64_in _ (by omega)
  have e3 : IntKind.i64.wrap (extra + 3) = extra + 3 := IntWalk.i64_in _ (by omega)
  have e7 : (0 : Int) ≤ (len : Int) - 1 := by omega
  have e8 : ((len : Int) - 1).toNat = len - 1 := by omega
  clear hlast hl hll
  go_enter Tryd.func78, Tryd.ntmps78
  go_wp2
  go_quiet (fail)
  go_wp2
  go_ret3
  rw [HE.out]
  exact ⟨saidV_some HRR.out (by omega), by repeat (first | exact Keeps.refl _ _ | apply Keeps.drewN | apply Keeps.drew | apply Keeps.alloc)⟩
set_option maxRecDepth 100000 in
set_option maxHeartbeats 1000000 in
theorem says_17 (w : World) (len c : Nat) (A : Option Addr) (l : List Int) (extra : Int) (h0 : 0 ≤ extra) (h3 : extra ≤ 7) :
    Calls Tryd.prog 78 #[.agg #[.int .i64 17, .int .i64 extra], .slice A len c] w fun e w' => e = .returned (saidV (sayF l 17 extra)) ∧ Keeps [] w w' := by
  have HRR := Lib.hid (sayF_17 (l := l) h0 h3)
  have e3 : IntKind.i64.wrap (extra + 3) = extra + 3 := IntWalk.i64_in _ (by omega)
  go_enter Tryd.func78, Tryd.ntmps78
  go_wp2
  go_quiet (fail)
  go_wp2
  go_ret3
  exact ⟨saidV_some HRR.out (by omega), by repeat (first | exact Keeps.refl _ _ | apply Keeps.drewN | apply Keeps.drew | apply Keeps.alloc)⟩
set_option maxRecDepth 100000 in
set_option maxHeartbeats 1000000 in
theorem says_18 (w : World) (len c : Nat) (A : Option Addr) (l : List Int) (extra : Int) (h0 : 0 ≤ extra) (h3 : extra ≤ 127) :
    Calls Tryd.prog 78 #[.agg #[.int .i64 18, .int .i64 extra], .slice A len c] w fun e w' => e = .returned (saidV (sayF l 18 extra)) ∧ Keeps [] w w' := by
  have HRR := Lib.hid (sayF_18 (l := l) h0 h3)
  have e3 : IntKind.i64.wrap (extra + 11) = extra + 11 := IntWalk.i64_in _ (by omega)
  go_enter Tryd.func78, Tryd.ntmps78
  go_wp2
  go_quiet (fail)
  go_wp2
  go_ret3
  exact ⟨saidV_some HRR.out (by omega), by repeat (first | exact Keeps.refl _ _ | apply Keeps.drewN | apply Keeps.drew | apply Keeps.alloc)⟩
theorem says_calls (w : World) (len c : Nat) (A : Option Addr) (l : List Int) (sym extra : Int) (hl : RI .i64 w A len l) (hn : len ≤ 1000000) :
    Calls Tryd.prog 78 #[.agg #[.int .i64 sym, .int .i64 extra], .slice A len c] w fun e w' => e = .returned (saidV (sayF l sym extra)) ∧ Keeps [] w w' := by
  by_cases hs : sym < 0 ∨ 18 < sym ∨ (0 ≤ sym ∧ sym ≤ 15 ∧ (extra == 0) = false) ∨ (sym = 16 ∧ extra < 0) ∨ (sym = 16 ∧ 0 ≤ extra ∧ 3 < extra) ∨ (sym = 17 ∧ extra < 0) ∨ (sym = 17 ∧ 0 ≤ extra ∧ 7 < extra) ∨ (sym = 18 ∧ extra < 0) ∨ (sym = 18 ∧ 0 ≤ extra ∧ 127 < extra)
  · exact says_none w len c A l sym extra hs
  · rcases (by omega : 0 ≤ sym ∧ sym ≤ 15 ∨ sym = 16 ∨ sym = 17 ∨ sym = 18) with ⟨h0, h1⟩ | rfl | rfl | rfl
    · have hx : extra = 0 := by
        by_cases h : extra = 0
        · exact h
        · exact absurd (Or.inr (Or.inr (Or.inl ⟨h0, h1, by simpa using h⟩))) hs
      subst hx
      exact says_lit w len c A l sym h0 h1
    · by_cases hp : 0 < len
      · exact says_16 w len c A l extra hl hp hn (by omega) (by omega)
      · obtain rfl : len = 0 := by omega
        obtain rfl : l = [] := List.eq_nil_of_length_eq_zero hl.len
        exact says_none16 w c A extra (by omega) (by omega)
    · exact says_17 w len c A l extra (by omega) (by omega)
    · exact says_18 w len c A l extra (by omega) (by omega)
end Go.Proofs.YtcblibefmclloaaDoor
