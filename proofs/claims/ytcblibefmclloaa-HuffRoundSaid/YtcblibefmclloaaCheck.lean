import Derived.Test.YtcblibefmclloaaMHuff
set_option linter.unusedVariables false
set_option linter.unusedSimpArgs false
namespace Go.Proofs.Ytcblibefmclloaa
open Go.RowKit
set_option maxRecDepth 100000 in
set_option maxHeartbeats 1000000 in
theorem check_calls (w : World) (A : Option Addr) (n c : Nat) (l : List Int) (hl : RI .i64 w A n l) (hn : n ≤ 140737488355328) :
    Calls Try.prog 10 #[.slice A n c] w fun e w' => e = .returned (.int .i64 (checkF l)) ∧ Dr w w' := by
  have hll := hl.len
  have HL := Lib.hid hl
  have HLL := Lib.hid hll
  clear hl
  by_cases h0 : n = 0
  · subst h0
    have hr : checkF l = 1 := by rw [checkF, if_pos (by omega)]
    clear hll
    rw [hr]
    clear hr
    go_enter Try.func10, Try.ntmps10
    go_wp2_with fail
    go_ret
    exact ⟨rfl, 0, rfl⟩
  · have e0 : ((n : Int) == 0) = false := by simp; omega
    by_cases hb : 288 < n
    · have hr : checkF l = 1 := by rw [checkF, if_pos (by omega)]
      have e1 : decide (288 < n) = true := by simpa using hb
      clear hll
      rw [hr]
      clear hr
      go_enter Try.func10, Try.ntmps10
      go_wp2_with fail
      go_ret
      exact ⟨rfl, 0, rfl⟩
    · have e1 : decide (288 < n) = false := by simp; omega
      clear hll
      go_enter Try.func10, Try.ntmps10
      go_wp2_with fail
      clear e0 e1
      go_loopw [3, 4, 17] (fun v3 v4 i wr => ∃ k : Nat, k ≤ n ∧ i = .int .i64 k ∧ v3 = .int .i64 (usedF (l.take k)) ∧ v4 = .int .i64 (measF (l.take k)) ∧ Hid ((l.take k).all okLen = true) ∧ Hid (Dr w wr)) (fun _ _ i _ => n - (intOf i).toNat)
      case atStart => exact ⟨0, by omega, rfl, rfl, rfl, Lib.hid (by simp), ⟨0, rfl⟩⟩
      case round =>
        obtain ⟨k, hk, rfl, rfl, rfl, HA, HD⟩ := hrel
        obtain ⟨q, rfl⟩ := HD.out
        clear HD
        have hu := usedF_le (l.take k)
        have hm := measF_le (l.take k) HA.out
        have htk : (l.take k).length = k := by rw [List.length_take]; have := HLL.out; omega
        rw [htk] at hu hm
        clear htk
        by_cases hlt : k < n
        · obtain ⟨b, o, rfl, hc⟩ := HL.out.at hlt
          have us := usedF_snoc l k (by have := HLL.out; omega)
          have ms := measF_snoc l k (by have := HLL.out; omega)
          have asn := all_snoc l k (by have := HLL.out; omega)
          rw [HA.out] at asn
          have US := Lib.hid us
          have MS := Lib.hid ms
          have AS := Lib.hid asn
          clear us ms asn
          generalize usedF (l.take k) = U at *
          generalize measF (l.take k) = M at *
          by_cases hneg : nth l k < 0
          · have e1 : decide (nth l k < 0) = true := by simpa using hneg
            have hok : okLen (nth l k) = false := by simp [okLen]; omega
            have hr : checkF l = 1 := by rw [checkF, if_neg (by have := HLL.out; omega), if_pos (all_hit l k (by have := HLL.out; omega) hok)]
            have HR := Lib.hid hr
            clear hr hok
            go_wp2_with fail
            go_ret
            rw [HR.out]
            exact ⟨rfl, _, rfl⟩
          · have e1 : decide (nth l k < 0) = false := by simpa using hneg
            by_cases hbig : 15 < nth l k
            · have e2 : decide (15 < nth l k) = true := by simpa using hbig
              have hok : okLen (nth l k) = false := by simp [okLen]; omega
              have hr : checkF l = 1 := by rw [checkF, if_neg (by have := HLL.out; omega), if_pos (all_hit l k (by have := HLL.out; omega) hok)]
              have HR := Lib.hid hr
              clear hr hok
              go_wp2_with fail
              go_ret
              rw [HR.out]
              exact ⟨rfl, _, rfl⟩
            · have e2 : decide (15 < nth l k) = false := by simpa using hbig
              have hok : okLen (nth l k) = true := by simp [okLen]; omega
              have HOK := Lib.hid hok
              clear hok
              by_cases hz : 0 < nth l k
              · have e3 : decide (0 < nth l k) = true := by simpa using hz
                have hp := part_pos (nth l k) hz (by omega)
                have hple := part_le (nth l k) HOK.out
                have hp' := hp.symm
                clear hp
                have HU : Hid (usedF (l.take (k + 1)) = U + 1) := by have := US.out; rwa [if_pos hz] at this
                go_wp2_with fail
                clear hp'
                go_roundw
                case rel => exact ⟨k + 1, by omega, by go_num, by rw [HU.out]; go_num, by rw [MS.out]; go_num, Lib.hid (AS.out.trans (by rw [HOK.out]; rfl)), ⟨_, rfl⟩⟩
                case measure => simp [intOf]; omega
              · have e3 : decide (0 < nth l k) = false := by simpa using hz
                have HU : Hid (usedF (l.take (k + 1)) = U) := by have := US.out; rwa [if_neg hz, Nat.add_zero] at this
                have HM : Hid (measF (l.take (k + 1)) = M) := by have := MS.out; rwa [part_zero _ hz, Nat.add_zero] at this
                go_wp2_with fail
                go_roundw
                case rel => exact ⟨k + 1, by omega, by go_num, by rw [HU.out], by rw [HM.out], Lib.hid (AS.out.trans (by rw [HOK.out]; rfl)), ⟨_, rfl⟩⟩
                case measure => simp [intOf]; omega
        · obtain rfl : k = n := by omega
          have htk : l.take k = l := List.take_of_length_le (by have := HLL.out; omega)
          rw [htk] at HA hu hm ⊢
          have hlen := HLL.out
          have HR : Hid (checkF l = if 32768 < measF l then 30 else if measF l = 32768 then 0 else if usedF l = 1 ∧ measF l = 16384 then 0 else 31) := by
            show _ = _
            rw [checkF, if_neg (by omega), if_neg (by rw [HA.out]; simp)]
          clear htk hlen
          generalize measF l = M at *
          generalize usedF l = U at *
          by_cases c1 : 32768 < M
          · have e1 : decide ((32768 : Int) < (M : Int)) = true := by simp; omega
            go_wp2_with fail
            go_ret
            rw [HR.out, if_pos c1]
            exact ⟨rfl, _, rfl⟩
          · have e1 : decide ((32768 : Int) < (M : Int)) = false := by simp; omega
            by_cases c2 : M = 32768
            · have e2 : decide ((M : Int) < 32768) = false := by simp; omega
              have C2 := Lib.hid c2
              clear c2
              go_wp2_with fail
              go_ret
              rw [HR.out, if_neg c1, if_pos C2.out]
              exact ⟨rfl, _, rfl⟩
            · have e2 : decide ((M : Int) < 32768) = true := by simp; omega
              by_cases c3 : U = 1
              · have e3 : ((U : Int) != 1) = false := by simp; omega
                have C3 := Lib.hid c3
                clear c3
                by_cases c4 : M = 16384
                · have e4 : ((M : Int) != 16384) = false := by simp; omega
                  have C4 := Lib.hid c4
                  have C2 := Lib.hid c2
                  clear c4 c2
                  go_wp2_with fail
                  go_ret
                  rw [HR.out, if_neg c1, if_neg C2.out, if_pos ⟨C3.out, C4.out⟩]
                  exact ⟨rfl, _, rfl⟩
                · have e4 : ((M : Int) != 16384) = true := by simp; omega
                  go_wp2_with fail
                  go_ret
                  rw [HR.out, if_neg c1, if_neg c2, if_neg (fun h => c4 h.2)]
                  exact ⟨rfl, _, rfl⟩
              · have e3 : ((U : Int) != 1) = true := by simp; omega
                go_wp2_with fail
                go_ret
                rw [HR.out, if_neg c1, if_neg c2, if_neg (fun h => c3 h.1)]
                exact ⟨rfl, _, rfl⟩
end Go.Proofs.Ytcblibefmclloaa
