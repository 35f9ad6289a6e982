import Derived.Test.YtcblibefmclloaaMFair
import Derived.Test.YtcblibefmclloaaRefCheck
set_option linter.unusedVariables false
set_option linter.unusedSimpArgs false
namespace Go.Proofs.Ytcblibefmclloaa
open Go.RowKit
theorem any_snoc2 (l : List Int) (k : Nat) (h : k < l.length) : (l.take (k + 1)).any badCount = ((l.take k).any badCount || badCount (nth l k)) := by
  rw [take_snoc' l k h]; simp
theorem any_hit2 (l : List Int) (k : Nat) (h : k < l.length) (hb : badCount (nth l k) = true) : l.any badCount = true := by
  rw [List.any_eq_true]
  rw [nth_lt h] at hb
  exact ⟨l[k], List.getElem_mem h, hb⟩
set_option maxRecDepth 100000 in
set_option maxHeartbeats 1000000 in
theorem limitErr_calls (w : World) (A : Option Addr) (n c : Nat) (l : List Int) (most : Int) (hl : RI .i64 w A n l) (hn : n ≤ 5000) :
    Calls Try.prog 16 #[.slice A n c, .int .i64 most] w fun e w' => e = .returned (.int .i64 (limF l most).2) ∧ Dr w w' := by
  have HL := Lib.hid hl
  have HLL := Lib.hid hl.len
  clear hl
  go_enter Try.func16, Try.ntmps16
  by_cases h0 : n < 1
  · have HR : Hid ((limF l most).2 = 1) := by show _ = _; unfold limF; rw [if_pos (by left; have := HLL.out; omega)]
    have e0 : decide (n < 1) = true := by simpa using h0
    rw [HR.out]
    go_wp2_with fail
    go_ret
    exact ⟨rfl, 0, rfl⟩
  have e0 : decide (n < 1) = false := by simpa using h0
  by_cases h1 : 288 < n
  · have HR : Hid ((limF l most).2 = 1) := by show _ = _; unfold limF; rw [if_pos (by right; left; have := HLL.out; omega)]
    have e1 : decide (288 < n) = true := by simpa using h1
    rw [HR.out]
    go_wp2_with fail
    go_ret
    exact ⟨rfl, 0, rfl⟩
  have e1 : decide (288 < n) = false := by simpa using h1
  by_cases h2 : most < 1
  · have HR : Hid ((limF l most).2 = 1) := by show _ = _; unfold limF; rw [if_pos (by right; right; left; exact h2)]
    have e2 : decide (most < 1) = true := by simpa using h2
    rw [HR.out]
    go_wp2_with fail
    go_ret
    exact ⟨rfl, 0, rfl⟩
  have e2 : decide (most < 1) = false := by simpa using h2
  by_cases h3 : 15 < most
  · have HR : Hid ((limF l most).2 = 1) := by show _ = _; unfold limF; rw [if_pos (by right; right; right; exact h3)]
    have e3 : decide (15 < most) = true := by simpa using h3
    rw [HR.out]
    go_wp2_with fail
    go_ret
    exact ⟨rfl, 0, rfl⟩
  have e3 : decide (15 < most) = false := by simpa using h3
  obtain ⟨t, rfl⟩ := Int.eq_ofNat_of_zero_le (show 0 ≤ most by omega)
  have HG : Hid (¬ (l.length = 0 ∨ 288 < l.length ∨ (t : Int) < 1 ∨ 15 < (t : Int))) := Lib.hid (by have := HLL.out; omega)
  go_wp2_with fail
  clear e0 e1 e2 e3
  go_loopw [5] (fun i wr => ∃ k : Nat, k ≤ n ∧ i = .int .i64 k ∧ Hid ((l.take k).any badCount = false) ∧ Hid (Dr w wr)) (fun i _ => n - (intOf i).toNat)
  case atStart => exact ⟨0, by omega, rfl, Lib.hid (by simp), ⟨0, rfl⟩⟩
  case round =>
    obtain ⟨k, hk, rfl, HA, HD⟩ := hrel
    obtain ⟨q, rfl⟩ := HD.out
    clear HD
    by_cases hlt : k < n
    · obtain ⟨b, o, rfl, hc⟩ := HL.out.at hlt
      have AS := Lib.hid (any_snoc2 l k (by have := HLL.out; omega))
      have HB : Hid (badCount (nth l k) = true → (limF l t).2 = 1) := Lib.hid (fun h => by
        unfold limF; rw [if_neg HG.out, if_pos (any_hit2 l k (by have := HLL.out; omega) h)])
      obtain ⟨x, hx⟩ : ∃ x, x = nth l k := ⟨_, rfl⟩
      rw [← hx] at hc AS HB
      by_cases hneg : x < 0
      · have e1 : decide (x < 0) = true := by simpa using hneg
        have HR := Lib.hid (HB.out (by simp [badCount, hneg]))
        clear HB AS HA
        go_wp2_with fail
        go_ret
        exact ⟨by rw [HR.out]; rfl, _, rfl⟩
      · have e1 : decide (x < 0) = false := by simpa using hneg
        by_cases hbig : 1000000000000 < x
        · have e2 : decide (1000000000000 < x) = true := by simpa using hbig
          have HR := Lib.hid (HB.out (by simp [badCount, hbig]))
          clear HB AS HA
          go_wp2_with fail
          go_ret
          exact ⟨by rw [HR.out]; rfl, _, rfl⟩
        · have e2 : decide (1000000000000 < x) = false := by simpa using hbig
          have HA2 : Hid ((l.take (k + 1)).any badCount = false) := Lib.hid (by rw [AS.out, HA.out]; simp [badCount]; omega)
          clear HA AS HB
          go_wp2_with fail
          go_roundw
          case rel => exact ⟨k + 1, by omega, by go_num, HA2, ⟨_, rfl⟩⟩
          case measure => simp [intOf]; omega
    · obtain rfl : k = n := by omega
      have e0 : decide (k < k) = false := by simp
      have HNB : Hid (l.any badCount = false) := by have := HA.out; rw [List.take_of_length_le (by have := HLL.out; omega)] at this; exact Lib.hid this
      clear HA
      go_wp2_with fail
      refine (used_calls _ _ _ _ l (HL.out.keeps ((Keeps.refl [] w).drewN q) (off_nil _)) (by omega)).mono ?_
      rintro _ w2 ⟨rfl, q2, rfl⟩
      go_wp2_with fail
      refine (power_calls _ t (by omega)).mono ?_
      rintro _ w3 ⟨rfl, q3, rfl⟩
      have hu := usedF_le l
      have hll := HLL.out
      have hp : 2 ^ t ≤ 32768 := by
        have : 2 ^ t ≤ 2 ^ 15 := Nat.pow_le_pow_right (by decide) (by omega)
        exact this
      have HR : Hid ((limF l t).2 = if 2 ^ t < usedF l then 30 else 0) := by
        show _ = _
        unfold limF; rw [if_neg HG.out, if_neg (by rw [HNB.out]; simp), used_leaves, Int.toNat_natCast]
        split <;> rfl
      clear hll HNB HG
      generalize usedF l = U at *
      generalize 2 ^ t = T at *
      by_cases hgt : T < U
      · have e4 : decide (T < U) = true := by simpa using hgt
        have e5 : decide ((T : Int) < (U : Int)) = true := by simp; omega
        go_wp2_with fail
        go_ret
        exact ⟨by rw [HR.out, if_pos hgt]; rfl, _, rfl⟩
      · have e4 : decide (T < U) = false := by simpa using hgt
        have e5 : decide ((T : Int) < (U : Int)) = false := by simp; omega
        go_wp2_with fail
        go_ret
        exact ⟨by rw [HR.out, if_neg hgt]; rfl, _, rfl⟩
end Go.Proofs.Ytcblibefmclloaa
