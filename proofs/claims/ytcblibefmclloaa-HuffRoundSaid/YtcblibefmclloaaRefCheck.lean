import Derived.Test.YtcblibefmclloaaMHuff
set_option linter.unusedVariables false
set_option linter.unusedSimpArgs false
namespace Go.Proofs.Ytcblibefmclloaa
open Go.RowKit
set_option maxHeartbeats 400000 in
theorem power_calls (w : World) (n : Nat) (hn : n ≤ 40) :
    Calls Try.prog 38 #[.int .i64 n] w fun e w' => e = .returned (.int .i64 ((2 ^ n : Nat) : Int)) ∧ Dr w w' := by
  go_enter Try.func38, Try.ntmps38
  go_wp2_with fail
  go_loopw [3, 4] (fun v i wr => ∃ (k : Nat) (m : Nat), k ≤ n ∧ i = .int .i64 k ∧ v = .int .i64 m ∧ Hid (m = 2 ^ k) ∧ Hid (Dr w wr)) (fun _ i _ => n - (intOf i).toNat)
  case atStart => exact ⟨0, 1, by omega, rfl, rfl, Lib.hid rfl, ⟨0, rfl⟩⟩
  case round =>
    obtain ⟨k, m, hk, rfl, rfl, HM, HD⟩ := hrel
    obtain ⟨q, rfl⟩ := HD.out
    clear HD
    have hb : m ≤ 1099511627776 := by
      rw [HM.out]
      exact Nat.le_trans (Nat.pow_le_pow_right (by decide) (show k ≤ 40 by omega)) (by decide)
    by_cases hlt : k < n
    · go_wp2_with fail
      go_roundw
      case rel => exact ⟨k + 1, 2 * m, by omega, by go_num, by go_num, Lib.hid (by rw [HM.out, Nat.pow_succ]; omega), ⟨_, rfl⟩⟩
      case measure => simp [intOf]; omega
    · obtain rfl : k = n := by omega
      go_wp2_with fail
      go_ret
      rw [← HM.out]
      exact ⟨rfl, _, rfl⟩
theorem power_calls' (w : World) (n : Nat) (ni : Int) (hi : ni = n) (hn : n ≤ 40) :
    Calls Try.prog 38 #[.int .i64 ni] w fun e w' => e = .returned (.int .i64 ((2 ^ n : Nat) : Int)) ∧ Dr w w' := by
  subst hi; exact power_calls w n hn
set_option maxHeartbeats 400000 in
theorem used_calls (w : World) (A : Option Addr) (n c : Nat) (l : List Int) (hl : RI .i64 w A n l) (hn : n ≤ 100000) :
    Calls Try.prog 37 #[.slice A n c] w fun e w' => e = .returned (.int .i64 (usedF l)) ∧ Dr w w' := by
  have HLL := Lib.hid hl.len
  have HL := Lib.hid hl
  clear hl
  go_enter Try.func37, Try.ntmps37
  go_wp2_with fail
  go_loopw [3, 4] (fun v i wr => ∃ k : Nat, k ≤ n ∧ i = .int .i64 k ∧ v = .int .i64 (usedF (l.take k)) ∧ Hid (Dr w wr)) (fun _ i _ => n - (intOf i).toNat)
  case atStart => exact ⟨0, by omega, rfl, rfl, ⟨0, rfl⟩⟩
  case round =>
    obtain ⟨k, hk, rfl, rfl, HD⟩ := hrel
    obtain ⟨q, rfl⟩ := HD.out
    clear HD
    have hu := usedF_le (l.take k)
    have htk : (l.take k).length = k := by rw [List.length_take]; have := HLL.out; omega
    rw [htk] at hu
    clear htk
    by_cases hlt : k < n
    · obtain ⟨b, o, rfl, hc⟩ := HL.out.at hlt
      have US := Lib.hid (usedF_snoc l k (by have := HLL.out; omega))
      generalize usedF (l.take k) = U at *
      by_cases hz : 0 < nth l k
      · have e3 : decide (0 < nth l k) = true := by simpa using hz
        have HU : Hid (usedF (l.take (k + 1)) = U + 1) := by have := US.out; rwa [if_pos hz] at this
        go_wp2_with fail
        go_roundw
        case rel => exact ⟨k + 1, by omega, by go_num, by rw [HU.out]; go_num, ⟨_, rfl⟩⟩
        case measure => simp [intOf]; omega
      · have e3 : decide (0 < nth l k) = false := by simpa using hz
        have HU : Hid (usedF (l.take (k + 1)) = U) := by have := US.out; rwa [if_neg hz, Nat.add_zero] at this
        go_wp2_with fail
        go_roundw
        case rel => exact ⟨k + 1, by omega, by go_num, by rw [HU.out], ⟨_, rfl⟩⟩
        case measure => simp [intOf]; omega
    · obtain rfl : k = n := by omega
      have htk : l.take k = l := List.take_of_length_le (by have := HLL.out; omega)
      rw [htk] at hu ⊢
      clear htk
      go_wp2_with fail
      go_ret
      exact ⟨rfl, _, rfl⟩
set_option maxHeartbeats 400000 in
theorem measure_calls (w : World) (A : Option Addr) (n c : Nat) (l : List Int) (hl : RI .i64 w A n l) (hn : n ≤ 100000) (hok : l.all okLen = true) :
    Calls Try.prog 39 #[.slice A n c] w fun e w' => e = .returned (.int .i64 (measF l)) ∧ Dr w w' := by
  have HLL := Lib.hid hl.len
  have HL := Lib.hid hl
  have HOK := Lib.hid hok
  clear hl hok
  go_enter Try.func39, Try.ntmps39
  go_wp2_with fail
  go_loopw [3, 4] (fun v i wr => ∃ k : Nat, k ≤ n ∧ i = .int .i64 k ∧ v = .int .i64 (measF (l.take k)) ∧ Hid (Dr w wr)) (fun _ i _ => n - (intOf i).toNat)
  case atStart => exact ⟨0, by omega, rfl, rfl, ⟨0, rfl⟩⟩
  case round =>
    obtain ⟨k, hk, rfl, rfl, HD⟩ := hrel
    obtain ⟨q, rfl⟩ := HD.out
    clear HD
    have hu := measF_le (l.take k) (by rw [List.all_eq_true]; intro x hx; exact List.all_eq_true.1 HOK.out x (List.mem_of_mem_take hx))
    have htk : (l.take k).length = k := by rw [List.length_take]; have := HLL.out; omega
    rw [htk] at hu
    clear htk
    by_cases hlt : k < n
    · obtain ⟨b, o, rfl, hc⟩ := HL.out.at hlt
      have hx : okLen (nth l k) = true := by rw [nth_lt (by have := HLL.out; omega)]; exact List.all_eq_true.1 HOK.out _ (List.getElem_mem _)
      have MS := Lib.hid (measF_snoc l k (by have := HLL.out; omega))
      have hple := part_le (nth l k) hx
      have hx1 : 0 ≤ nth l k ∧ nth l k ≤ 15 := by simpa [okLen] using hx
      obtain ⟨hx2, hx3⟩ := hx1
      clear hx
      generalize measF (l.take k) = M at *
      by_cases hz : 0 < nth l k
      · have e3 : decide (0 < nth l k) = true := by simpa using hz
        have HP : Hid (((2 ^ (15 - nth l k).toNat : Nat) : Int) = (part (nth l k) : Int)) := by show _ = _; unfold part; rw [if_pos hz]
        go_wp2_with fail
        refine (power_calls' _ (15 - nth l k).toNat _ (by omega) (by omega)).mono ?_
        rintro e w' ⟨rfl, hd⟩
        rw [HP.out]
        have HD2 := Lib.hid (Dr.trans ⟨q, rfl⟩ hd)
        clear hd
        go_wp2_with fail
        go_roundw
        case rel => exact ⟨k + 1, by omega, by go_num, by rw [MS.out]; go_num, HD2⟩
        case measure => simp [intOf]; omega
      · have e3 : decide (0 < nth l k) = false := by simpa using hz
        have HM : Hid (measF (l.take (k + 1)) = M) := by have := MS.out; rwa [part_zero _ hz, Nat.add_zero] at this
        go_wp2_with fail
        go_roundw
        case rel => exact ⟨k + 1, by omega, by go_num, by rw [HM.out], ⟨_, rfl⟩⟩
        case measure => simp [intOf]; omega
    · obtain rfl : k = n := by omega
      have htk : l.take k = l := List.take_of_length_le (by have := HLL.out; omega)
      rw [htk] at hu ⊢
      clear htk
      go_wp2_with fail
      go_ret
      exact ⟨rfl, _, rfl⟩
end Go.Proofs.Ytcblibefmclloaa
