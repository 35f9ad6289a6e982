import Derived.Test.YtcblibefmclloaaDoorSteps
set_option linter.unusedVariables false
set_option linter.unusedSimpArgs false
namespace Go.Proofs.YtcblibefmclloaaDoor
open Go.RowKit
/-- Is a length beyond what may be? -/
def badLen (x : Int) : Bool := decide (x < 0) || decide (15 < x)
set_option maxHeartbeats 400000 in
theorem lengths1_calls (w : World) (x : Int) :
    Calls Tryd.prog 76 #[.int .i64 x] w fun e w' => e = .returned (.bool (badLen x)) ∧ w = w' := by
  by_cases h : x < 0
  · have e1 : decide (x < 0) = true := by simpa using h
    have hb : badLen x = true := by simp [badLen, h]
    rw [hb]; clear hb
    go_enter Tryd.func76, Tryd.ntmps76
    go_wp2
    go_ret
    exact ⟨rfl, rfl⟩
  · have e1 : decide (x < 0) = false := by simpa using h
    have hb : badLen x = decide (15 < x) := by simp [badLen, h]
    rw [hb]; clear hb
    go_enter Tryd.func76, Tryd.ntmps76
    go_wp2
    go_ret
    exact ⟨rfl, rfl⟩
def anyBad (xs : List Int) : Bool := xs.any badLen
theorem any_snoc {xs : List Int} {k n : Nat} (hl : xs.length = n) (hk : k < n) (h : (xs.take k).any badLen = false) (hb : badLen (nth xs k) = false) : (xs.take (k + 1)).any badLen = false := by
  rw [List.take_succ_eq_append_getElem (by omega), List.any_append, h]
  rw [nth_lt (by omega)] at hb
  simp [hb]
theorem any_hit {xs : List Int} {k n : Nat} (hl : xs.length = n) (hk : k < n) (hb : badLen (nth xs k) = true) : anyBad xs = true := by
  rw [anyBad, List.any_eq_true]
  rw [nth_lt (by omega)] at hb
  exact ⟨_, List.getElem_mem _, hb⟩
/-- A place, or -1: whether there is one. -/
def Found (b : Bool) (e : Ending) : Prop := ∃ r : Int, e = .returned (.int .i64 r) ∧ decide (0 ≤ r) = b ∧ -1 ≤ r ∧ r ≤ 140737488355328
set_option maxRecDepth 100000 in
set_option maxHeartbeats 400000 in
theorem indexFunc_calls (w : World) (A : Option Addr) (n c : Nat) (xs : List Int) (hx : RI .i64 w A n xs) (hn : n ≤ 140737488355328) :
    Calls Tryd.prog 103 #[.slice A n c, .func (.func 76) #[] #[]] w fun e w' => Found (anyBad xs) e ∧ Dr w w' := by
  have HX := Lib.hid hx
  clear hx
  go_enter Tryd.func103, Tryd.ntmps103
  go_wp2_with fail
  go_loopw [5, 8] (fun v i wr => ∃ k : Nat, k ≤ n ∧ i = .int .i64 k ∧ Hid ((xs.take k).any badLen = false) ∧ Hid (Dr w wr)) (fun _ i _ => n - (intOf i).toNat)
  case atStart => exact ⟨0, by omega, rfl, by simp [Hid], ⟨0, rfl⟩⟩
  case round =>
    obtain ⟨k, hk, rfl, HE, HW⟩ := hrel
    obtain ⟨q, rfl⟩ := HW.out
    clear HW
    by_cases hlt : k < n
    · obtain ⟨b, o, rfl, hc⟩ := HX.out.at hlt
      go_wp2_with fail
      refine (lengths1_calls _ _).mono ?_
      rintro e w' ⟨rfl, rfl⟩
      by_cases hb : badLen (nth xs k) = true
      · have HB := Lib.hid hb
        rw [hb]
        clear hb
        go_wp2_with fail
        go_ret
        exact ⟨⟨k, rfl, by rw [any_hit HX.out.len hlt HB.out]; simp, by omega, by omega⟩, _, rfl⟩
      · replace hb := Bool.eq_false_iff.2 hb
        have HB := Lib.hid hb
        rw [hb]
        clear hb
        go_wp2_with fail
        go_roundw
        case rel => exact ⟨k + 1, by omega, by go_num, any_snoc HX.out.len hlt HE.out HB.out, ⟨_, rfl⟩⟩
        case measure => simp [intOf]; omega
    · go_wp2_with fail
      go_ret
      have e1 : xs.take k = xs := List.take_of_length_le (by have := HX.out.len; omega)
      have e2 := HE.out
      rw [e1] at e2
      exact ⟨⟨-1, rfl, by rw [anyBad, e2]; simp, by omega, by omega⟩, _, rfl⟩
set_option maxRecDepth 100000 in
set_option maxHeartbeats 400000 in
theorem containsFunc_calls (w : World) (A : Option Addr) (n c : Nat) (xs : List Int) (hx : RI .i64 w A n xs) (hn : n ≤ 140737488355328) :
    Calls Tryd.prog 75 #[.slice A n c, .func (.func 76) #[] #[]] w fun e w' => e = .returned (.bool (anyBad xs)) ∧ Dr w w' := by
  have HX := Lib.hid hx
  clear hx
  go_enter Tryd.func75, Tryd.ntmps75
  go_wp2_with fail
  refine (indexFunc_calls w _ _ _ xs HX.out hn).mono ?_
  rintro e w' ⟨⟨r, rfl, hr, h1, h2⟩, q, rfl⟩
  have HR := Lib.hid hr
  clear hr
  go_wp2_with fail
  go_ret
  rw [← HR.out]
  exact ⟨rfl, _, rfl⟩
set_option maxRecDepth 100000 in
set_option maxHeartbeats 400000 in
theorem lengths_calls (w : World) (A : Option Addr) (n c : Nat) (xs : List Int) (hx : RI .i64 w A n xs) (hn : n ≤ 140737488355328) :
    Calls Tryd.prog 52 #[.slice A n c] w fun e w' => e = .returned (.bool (!anyBad xs)) ∧ Dr w w' := by
  have HX := Lib.hid hx
  clear hx
  go_enter Tryd.func52, Tryd.ntmps52
  go_wp2_with fail
  refine (containsFunc_calls w _ _ _ xs HX.out hn).mono ?_
  rintro e w' ⟨rfl, q, rfl⟩
  go_wp2_with fail
  go_ret
  exact ⟨rfl, _, rfl⟩
set_option maxRecDepth 100000 in
set_option maxHeartbeats 400000 in
theorem refLengths_calls (w : World) (A : Option Addr) (n c : Nat) (xs : List Int) (hx : RI .i64 w A n xs) (hn : n ≤ 140737488355328) :
    Calls Tryd.prog 54 #[.slice A n c] w fun e w' => e = .returned (.bool (!anyBad xs)) ∧ Dr w w' := by
  have HX := Lib.hid hx
  clear hx
  go_enter Tryd.func54, Tryd.ntmps54
  go_wp2_with fail
  go_loopw [3] (fun i wr => ∃ k : Nat, k ≤ n ∧ i = .int .i64 k ∧ Hid ((xs.take k).any badLen = false) ∧ Hid (Dr w wr)) (fun i _ => n - (intOf i).toNat)
  case atStart => exact ⟨0, by omega, rfl, by simp [Hid], ⟨0, rfl⟩⟩
  case round =>
    obtain ⟨k, hk, rfl, HE, HW⟩ := hrel
    obtain ⟨q, rfl⟩ := HW.out
    clear HW
    by_cases hlt : k < n
    · obtain ⟨b, o, rfl, hc⟩ := HX.out.at hlt
      by_cases h1 : nth xs k < 0
      · have e1 : decide (nth xs k < 0) = true := by simpa using h1
        go_wp2_with fail
        go_ret
        rw [any_hit HX.out.len hlt (by simp [badLen, h1])]
        exact ⟨rfl, _, rfl⟩
      · have e1 : decide (nth xs k < 0) = false := by simpa using h1
        by_cases h2 : 15 < nth xs k
        · have e2 : decide (15 < nth xs k) = true := by simpa using h2
          go_wp2_with fail
          go_ret
          rw [any_hit HX.out.len hlt (by simp [badLen, h2])]
          exact ⟨rfl, _, rfl⟩
        · have e2 : decide (15 < nth xs k) = false := by simpa using h2
          have HB := Lib.hid (show badLen (nth xs k) = false by simp [badLen, h1, h2])
          go_wp2_with fail
          go_roundw
          case rel => exact ⟨k + 1, by omega, by go_num, any_snoc HX.out.len hlt HE.out HB.out, ⟨_, rfl⟩⟩
          case measure => simp [intOf]; omega
    · go_wp2_with fail
      go_ret
      have e1 : xs.take k = xs := List.take_of_length_le (by have := HX.out.len; omega)
      have e2 := HE.out
      rw [e1] at e2
      rw [anyBad, e2]
      exact ⟨rfl, _, rfl⟩
end Go.Proofs.YtcblibefmclloaaDoor
