import Derived.Test.YtcblibefmclloaaAwake3
import Derived.Test.YtcblibefmclloaaDecNil
set_option linter.unusedVariables false
set_option linter.unusedSimpArgs false
namespace Go.Proofs.Ytcblibefmclloaa
open Go.RowKit
theorem byte_wf {zs : List Int} (h : ∀ x ∈ zs, (Lit.int .u8 x).wf = true) (j : Nat) : 0 ≤ nth zs j ∧ nth zs j ≤ 255 := by
  by_cases hj : j < zs.length
  · have := h (nth zs j) (by rw [nth_lt hj]; exact List.getElem_mem _)
    simp [Lit.wf] at this
    rwa [show IntKind.u8.min = 0 from rfl, show IntKind.u8.max = 255 from rfl] at this
  · simp [nth, List.getD, List.getElem?_eq_none (Nat.le_of_not_lt hj)]
set_option maxRecDepth 100000 in
set_option maxHeartbeats 1000000 in
theorem huffNil_walk (w : World) (A : Option Addr) (n c : Nat) (bs : List Int) (hb : RI .u8 w A n bs) (hm : n ≤ maxLen) (hnil : A = none → n = 0 ∧ c = 0) (hwf : ∀ x ∈ bs, (Lit.int .u8 x).wf = true) :
    Calls Try.prog 7 #[.slice A n c] w fun e w' => e = .returned (.bool true) ∧ Keeps [] w w' := by
  have HB := Lib.hid hb
  have HN := Lib.hid hnil
  have HY := Lib.hid (byte_wf hwf)
  clear hb hnil hwf
  go_enter Try.func7, Try.ntmps7
  by_cases hbig : 16384 < n
  · have e1 : decide (16384 < n) = true := by simpa using hbig
    have e2 : decide ((16384 : Int) < (n : Int)) = true := by simp; omega
    go_wp2_with fail
    go_ret
    exact ⟨rfl, Keeps.refl _ _⟩
  · have e1 : decide (16384 < n) = false := by simpa using hbig
    have e2 : decide ((16384 : Int) < (n : Int)) = false := by simp; omega
    go_wp2_with fail
    refine (newReader_calls _ _ _ _ bs HB.out HN.out HY.out (by omega)).mono ?_
    rintro e w1 ⟨g, A1, c1, rfl, hr1, hg1, ha1, hb1⟩
    have HR := Lib.hid hr1
    have K1 := Lib.hid (Keeps.of_below hb1 (S := []))
    clear hr1 hg1 ha1 hb1
    go_wp2_with fail
    refine (next_nod _ _).mono ?_
    rintro e w2 ⟨rfl, hd2⟩
    have HR2 := Lib.hid (HR.out.dr (hd2.keeps (S := [])))
    have K2 := Lib.hid (K1.out.trans (hd2.keeps (S := [])))
    clear hd2 HR K1
    go_wp2_with fail
    refine (awake3_calls _).mono ?_
    rintro e w3 ⟨rfl, hk3⟩
    have HR3 := Lib.hid (HR2.out.dr hk3)
    have K3 := Lib.hid (K2.out.trans hk3)
    clear hk3 HR2 K2
    go_wp2_with fail
    refine (gone_calls _ _ _ _ _ _ HR3.out).mono ?_
    rintro e w4 ⟨rfl, hd4⟩
    have K4 := Lib.hid (K3.out.trans (hd4.keeps (S := [])))
    clear hd4
    go_wp2_with fail
    go_ret
    exact ⟨rfl, K4.out⟩
end Go.Proofs.Ytcblibefmclloaa
