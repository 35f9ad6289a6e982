import Derived.Test.YtcblibefmclloaaDoorLawPacks
import Derived.Test.YtcblibefmclloaaDoorMSteps
import Derived.Test.YtcblibefmclloaaDoorUnpack
set_option linter.unusedVariables false
set_option linter.unusedSimpArgs false
namespace Go.Proofs.YtcblibefmclloaaDoor
open Go.RowKit
theorem anyBad_range {xs : List Int} (h : anyBad xs = false) : ∀ x ∈ xs, 0 ≤ x ∧ x ≤ 15 := by
  intro x hx
  have := List.any_eq_false.1 h x hx
  simp [badLen] at this
  omega
set_option maxRecDepth 100000 in
set_option maxHeartbeats 1000000 in
theorem lawSteps_big (w : World) (A : Option Addr) (n c : Nat) (ht : Tabs w) (hb : 1048576 < n) :
    Calls Tryd.prog 6 #[.slice A n c] w fun e w' => e = .returned (.bool true) ∧ Keeps [] w w' := by
  have e1 : decide (1048576 < n) = true := by simpa using hb
  have HT := Lib.hid ht
  clear ht
  go_enter Tryd.func6, Tryd.ntmps6
  go_wp2_with fail
  refine (awake_calls _ HT.out).mono ?_
  rintro e w' ⟨rfl, hk⟩
  have HK := Lib.hid hk
  clear hk
  go_wp2_with fail
  go_ret
  exact ⟨rfl, HK.out⟩
theorem Packed.good {w w' : World} {xs : List Int} {e : Ending} (h : Packed w xs e w') (h3 : xs.length ≤ 316) (ha : anyBad xs = false) :
    ∃ v, e = .returned (.tuple #[v, .int .i64 0]) ∧ w'.ownsRow w.heap.size 31 2 v (packF xs).length (pcells (packF xs)) ∧ Below w.heap.size w w' := by
  have := h.u; rwa [show packR xs = (packF xs, 0) from if_pos ⟨h3, ha⟩] at this
theorem Packed.bad {w w' : World} {xs : List Int} {e : Ending} (h : Packed w xs e w') (hb : ¬ (xs.length ≤ 316 ∧ anyBad xs = false)) :
    e = .returned (.tuple #[.slice none 0 0, .int .i64 1]) ∧ Below w.heap.size w w' := by
  rcases h with ⟨h1, h2, _⟩ | ⟨_, he, hb⟩
  · exact absurd ⟨h1, h2⟩ hb
  · exact ⟨he, hb⟩
set_option maxRecDepth 100000 in
set_option maxHeartbeats 1000000 in
theorem lawSteps_bad (w : World) (A : Option Addr) (n c : Nat) (xs : List Int) (ht : Tabs w) (hx : RI .i64 w A n xs) (hb : n ≤ 1048576) (hg : ¬ (xs.length ≤ 316 ∧ anyBad xs = false)) :
    Calls Tryd.prog 6 #[.slice A n c] w fun e w' => e = .returned (.bool true) ∧ Keeps [] w w' := by
  have e1 : decide (1048576 < n) = false := by simpa using hb
  have HT := Lib.hid ht
  have HX := Lib.hid hx
  have HG := Lib.hid hg
  clear ht hx hg
  go_enter Tryd.func6, Tryd.ntmps6
  go_wp2_with fail
  refine (lensPack_calls _ _ _ _ xs HT.out HX.out hb).mono ?_
  intro e w1 hp
  obtain ⟨rfl, hb1⟩ := hp.bad HG.out
  have K1 := Lib.hid (Keeps.of_below hb1 (S := []))
  clear hb1 hp
  go_wp2_with fail
  refine (awake_calls _ (HT.out.keeps K1.out (by simp))).mono ?_
  rintro e w' ⟨rfl, hk⟩
  have HK := Lib.hid (K1.out.trans hk)
  clear hk
  go_wp2_with fail
  go_ret
  exact ⟨rfl, HK.out⟩
set_option maxRecDepth 100000 in
set_option maxHeartbeats 2000000 in
theorem lawSteps_good (w : World) (A : Option Addr) (n c : Nat) (xs : List Int) (lv mv : Int) (ht : Tabs w) (hx : RI .i64 w A n xs) (h3 : n ≤ 316) (ha : anyBad xs = false)
    (hl : unpackF (packF xs) ((n : Int) - 1) = ([], lv)) (hm : unpackF (packF xs) ((n : Int) + 1) = ([], mv))
    (hc : n = 0 ∧ lv = 1 ∧ mv = 41 ∨ (0 < n ∧ n ≠ 316) ∧ lv = 41 ∧ mv = 41 ∨ n = 316 ∧ lv = 41 ∧ mv = 1) :
    Calls Tryd.prog 6 #[.slice A n c] w fun e w' => e = .returned (.bool true) ∧ Keeps [] w w' := by
  have hb : n ≤ 1048576 := by omega
  have e1 : decide (1048576 < n) = false := by simpa using hb
  have HT := Lib.hid ht
  have HX := Lib.hid hx
  have HL := Lib.hid hx.len
  have HA := Lib.hid ha
  have U0 : Hid (unpackF (packF xs) n = (xs, 0)) := by
    have := unpackF_pack xs (anyBad_range ha) (by have := hx.len; omega)
    rw [hx.len] at this; exact this
  have U1 := Lib.hid hl
  have U2 := Lib.hid hm
  have hpn : (packF xs).length ≤ n := by have := packF_len xs; have := hx.len; omega
  clear ht hx hl hm ha
  rcases hc with ⟨h0, rfl, rfl⟩ | ⟨⟨hn0, hn1⟩, rfl, rfl⟩ | ⟨h0, rfl, rfl⟩
  case' inl =>
    have q : ((n : Int) == 0) = true := by simp; omega
    have H0 := Lib.hid h0
    clear h0
  case' inr.inl =>
    have q : ((n : Int) == 0) = false := by simp; omega
    have q2 : decide (0 < n) = true := by simp; omega
    clear hn0 hn1
  case' inr.inr =>
    have q : ((n : Int) == 0) = false := by simp; omega
    have q2 : decide (0 < n) = true := by simp; omega
    have q3 : ((n : Int) == 316) = true := by simp; omega
    have H0 := Lib.hid h0
    clear h0
  all_goals
    go_enter Tryd.func6, Tryd.ntmps6
    go_wp2_with fail
    refine (lensPack_calls _ _ _ _ xs HT.out HX.out hb).mono ?_
    intro e w1 hp
    obtain ⟨v1, rfl, ho1, hb1⟩ := hp.good (by have := HL.out; omega) HA.out
    have K1 := Lib.hid (Keeps.of_below hb1 (S := []))
    obtain ⟨P, cp, rfl, hrp, hcp, -⟩ := own_rp ho1
    have R1 := Lib.hid hrp
    clear hb1 ho1 hrp hp e1
    have hpn' := hpn
    generalize packF xs = S at *
    go_wp2_with fail
    refine (unpack_calls _ _ _ _ S n (HT.out.keeps K1.out (by simp)) R1.out (by omega)).mono ?_
    rintro e w2 ⟨v2, rfl, ho2, hb2⟩
    rw [U0.out] at ho2 ⊢
    have K2 := Lib.hid (K1.out.trans (Keeps.of_below hb2 (S := [])))
    have R2 := Lib.hid (R1.out.keeps (Keeps.of_below hb2 (S := [])) (off_nil _))
    have O2 := Lib.hid ho2
    clear ho2 hb2 R1 K1
    go_wp2_with fail
    refine (unpack_calls _ _ _ _ S ((n : Int) - 1) (HT.out.keeps K2.out (by simp)) R2.out (by omega)).mono ?_
    rintro e w3 ⟨v3, rfl, ho3, hb3⟩
    rw [U1.out] at ho3 ⊢
    have K3 := Lib.hid (K2.out.trans (Keeps.of_below hb3 (S := [])))
    have R3 := Lib.hid (R2.out.keeps (Keeps.of_below hb3 (S := [])) (off_nil _))
    have O3 := Lib.hid (own_keeps O2.out (Keeps.of_below hb3 (S := [])) (by simp))
    clear ho3 hb3 R2 K2 O2
    go_wp2_with fail
    refine (unpack_calls _ _ _ _ S ((n : Int) + 1) (HT.out.keeps K3.out (by simp)) R3.out (by omega)).mono ?_
    rintro e w4 ⟨v4, rfl, ho4, hb4⟩
    rw [U2.out] at ho4 ⊢
    have K4 := Lib.hid (K3.out.trans (Keeps.of_below hb4 (S := [])))
    have O4 := Lib.hid (own_keeps O3.out (Keeps.of_below hb4 (S := [])) (by simp))
    clear ho4 hb4 R3 K3 O3
    obtain ⟨M, cm, rfl, hri, hcm, -⟩ := own_ri O4.out
    have RM : Hid (RI .i64 w4 M n xs) := by have := hri; rwa [HL.out] at this
    clear hri O4
    go_wp2_with fail
    refine (awake_calls _ (HT.out.keeps K4.out (by simp))).mono ?_
    rintro e w5 ⟨rfl, hk⟩
    have K5 := Lib.hid (K4.out.trans hk)
    have RM5 := Lib.hid (RM.out.keeps hk (off_nil _))
    clear hk K4 RM
    go_wp2_with fail
    rw [HL.out]
    refine (ints_calls _ _ _ _ _ _ _ xs xs RM5.out (HX.out.keeps K5.out (off_nil _)) (by omega) (by omega)).mono ?_
    rintro e w6 ⟨rfl, hd⟩
    rw [beq_self_eq_true]
    have K6 := Lib.hid (K5.out.trans hd.keeps)
    clear hd K5 RM5
    have q4 : decide (S.length ≤ n) = true := by simp; omega
    go_wp2_with fail
    go_ret
    exact ⟨rfl, K6.out⟩
theorem lensSteps_walk (w : World) (A : Option Addr) (n c : Nat) (xs : List Int) (ht : Tabs w) (hx : RI .i64 w A n xs) (_hn : n ≤ maxLen) (_h1 : A = none → n = 0 ∧ c = 0) (_h2 : ∀ x ∈ xs, (Lit.int .i64 x).wf = true) :
    Calls Tryd.prog 6 #[.slice A n c] w fun e w' => e = .returned (.bool true) ∧ Keeps [] w w' := by
  have hl := hx.len
  by_cases hb : 1048576 < n
  · exact lawSteps_big w A n c ht hb
  · by_cases hg : xs.length ≤ 316 ∧ anyBad xs = false
    · have U1 := unpackF_less xs (anyBad_range hg.2) hg.1
      have U2 := unpackF_more xs (anyBad_range hg.2) hg.1
      rw [hl] at U1 U2
      refine lawSteps_good w A n c xs _ _ ht hx (by omega) hg.2 U1 U2 ?_
      rcases (by omega : n = 0 ∨ (0 < n ∧ n ≠ 316) ∨ n = 316) with h | h | h
      · left; subst h; simp
      · right; left; exact ⟨h, if_neg (by omega), if_neg (by omega)⟩
      · right; right; subst h; simp
    · exact lawSteps_bad w A n c xs ht hx (by omega) hg
end Go.Proofs.YtcblibefmclloaaDoor
