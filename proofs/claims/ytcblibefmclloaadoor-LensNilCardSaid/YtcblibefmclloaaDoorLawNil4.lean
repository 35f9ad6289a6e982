import Derived.Test.YtcblibefmclloaaDoorAwake
import Derived.WalkMore
set_option linter.unusedVariables false
set_option linter.unusedSimpArgs false
namespace Go.Proofs.YtcblibefmclloaaDoor
open Go.RowKit
set_option maxRecDepth 100000 in
set_option maxHeartbeats 400000 in
theorem lensRead_nil (w : World) : Calls Tryd.prog 25 #[.pointer none] w fun e w' => e = .returned (.tuple #[.slice none 0 0, .slice none 0 0, .int .i64 3]) ∧ Dr w w' := by
  go_enter Tryd.func25, Tryd.ntmps25
  go_wp2_with fail
  go_ret3
  exact ⟨rfl, 0, rfl⟩
set_option maxRecDepth 100000 in
set_option maxHeartbeats 400000 in
theorem lensWrite_nil (w : World) (A B : Option Addr) (n m c d : Nat) : Calls Tryd.prog 44 #[.pointer none, .slice A n c, .slice B m d] w fun e w' => e = .returned (.int .i64 3) ∧ Dr w w' := by
  go_enter Tryd.func44, Tryd.ntmps44
  go_wp2_with fail
  go_ret
  exact ⟨rfl, 0, rfl⟩
set_option maxRecDepth 100000 in
set_option maxHeartbeats 1000000 in
theorem lensNil_walk (w : World) (A : Option Addr) (n c : Nat) (l : List Int) (A2 : Option Addr) (m c2 : Nat) (sy : List Int) (hT : Tabs w) (hl : RI .i64 w A n l) (hm : n ≤ maxLen) (hnil : A = none → n = 0 ∧ c = 0) (hwf : ∀ x ∈ l, (Lit.int .i64 x).wf = true)
    (hs : RI .i64 w A2 m sy) (hm2 : m ≤ maxLen) (hnil2 : A2 = none → m = 0 ∧ c2 = 0) (hwf2 : ∀ x ∈ sy, (Lit.int .i64 x).wf = true) :
    Calls Tryd.prog 12 #[.slice A n c, .slice A2 m c2] w fun e w' => e = .returned (.bool true) ∧ Keeps [] w w' := by
  have HT := Lib.hid hT
  clear hT hl hnil hwf hs hnil2 hwf2
  go_enter Tryd.func12, Tryd.ntmps12
  by_cases h1 : 1048576 < n
  · have e1 : decide (1048576 < n) = true := by simpa using h1
    have e1' : decide ((1048576 : Int) < (n : Int)) = true := by simp; omega
    go_wp2_with fail
    refine (awake_calls _ HT.out).mono ?_
    rintro e w' ⟨rfl, hk⟩
    have HK := Lib.hid hk
    clear hk
    go_wp2_with fail
    go_ret
    exact ⟨rfl, HK.out⟩
  have e1 : decide (1048576 < n) = false := by simpa using h1
  have e1' : decide ((1048576 : Int) < (n : Int)) = false := by simp; omega
  by_cases h2 : 1048576 < m
  · have e2 : decide (1048576 < m) = true := by simpa using h2
    have e2' : decide ((1048576 : Int) < (m : Int)) = true := by simp; omega
    go_wp2_with fail
    refine (awake_calls _ HT.out).mono ?_
    rintro e w' ⟨rfl, hk⟩
    have HK := Lib.hid hk
    clear hk
    go_wp2_with fail
    go_ret
    exact ⟨rfl, HK.out⟩
  have e2 : decide (1048576 < m) = false := by simpa using h2
  have e2' : decide ((1048576 : Int) < (m : Int)) = false := by simp; omega
  go_wp2_with fail
  refine (lensRead_nil _).mono ?_
  rintro e w1 ⟨rfl, hd1⟩
  have K1 := Lib.hid (hd1.keeps (S := []))
  clear hd1
  go_wp2_with fail
  refine (awake_calls _ (HT.out.keeps K1.out (by simp))).mono ?_
  rintro e w2 ⟨rfl, hk⟩
  have K2 := Lib.hid (K1.out.trans hk)
  clear hk
  go_wp2_with fail
  refine (lensWrite_nil _ _ _ _ _ _ _).mono ?_
  rintro e w3 ⟨rfl, hd3⟩
  have K3 := Lib.hid (K2.out.trans (hd3.keeps (S := [])))
  clear hd3
  go_wp2_with fail
  go_ret
  exact ⟨rfl, K3.out⟩
end Go.Proofs.YtcblibefmclloaaDoor
