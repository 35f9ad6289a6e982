import Derived.Test.YtcblibefmclloaaRefCheck
set_option linter.unusedVariables false
set_option linter.unusedSimpArgs false
namespace Go.Proofs.Ytcblibefmclloaa
open Go.RowKit
set_option maxRecDepth 100000 in
set_option maxHeartbeats 1000000 in
theorem refCheck_calls (w : World) (A : Option Addr) (n c : Nat) (l : List Int) (hl : RI .i64 w A n l) (hn : n ≤ 140737488355328) :
    Calls Try.prog 17 #[.slice A n c] w fun e w' => e = .returned (.int .i64 (checkF l)) ∧ Dr w w' := by
  have hll := hl.len
  have HL := Lib.hid hl
  have HLL := Lib.hid hll
  clear hl
  by_cases h0 : n < 1
  · have hr : checkF l = 1 := by rw [checkF, if_pos (by omega)]
    have e0 : decide (n < 1) = true := by simpa using h0
    clear hll
    rw [hr]
    clear hr
    go_enter Try.func17, Try.ntmps17
    go_wp2_with fail
    go_ret
    exact ⟨rfl, 0, rfl⟩
  · have e0 : decide (n < 1) = false := by simpa using h0
    by_cases hb : 288 < n
    · have hr : checkF l = 1 := by rw [checkF, if_pos (by omega)]
      have e1 : decide (288 < n) = true := by simpa using hb
      clear hll
      rw [hr]
      clear hr
      go_enter Try.func17, Try.ntmps17
      go_wp2_with fail
      go_ret
      exact ⟨rfl, 0, rfl⟩
    · have e1 : decide (288 < n) = false := by simp; omega
      clear hll
      go_enter Try.func17, Try.ntmps17
      go_wp2_with fail
      clear e0 e1
      go_loopw [3] (fun i wr => ∃ k : Nat, k ≤ n ∧ i = .int .i64 k ∧ Hid ((l.take k).all okLen = true) ∧ Hid (Dr w wr)) (fun i _ => n - (intOf i).toNat)
      case atStart => exact ⟨0, by omega, rfl, Lib.hid (by simp), ⟨0, rfl⟩⟩
      case round =>
        obtain ⟨k, hk, rfl, HA, HD⟩ := hrel
        by_cases hlt : k < n
        · obtain ⟨q, rfl⟩ := HD.out
          clear HD
          obtain ⟨b, o, rfl, hc⟩ := HL.out.at hlt
          have asn := all_snoc l k (by have := HLL.out; omega)
          rw [HA.out] at asn
          have AS := Lib.hid asn
          clear asn
          by_cases hneg : nth l k < 0
          · have e1 : decide (nth l k < 0) = true := by simpa using hneg
            have hok : okLen (nth l k) = false := by simp [okLen]; omega
            have hr : checkF l = 1 := by rw [checkF, if_neg (by have := HLL.out; omega), if_pos (all_hit l k (by have := HLL.out; omega) hok)]
            have HR := Lib.hid hr
            clear hr hok
            go_wp2_with fail
            go_ret
            rw [HR.out]
            exact ⟨rfl, _, rfl⟩
          · have e1 : decide (nth l k < 0) = false := by simpa using hneg
            by_cases hbig : 15 < nth l k
            · have e2 : decide (15 < nth l k) = true := by simpa using hbig
              have hok : okLen (nth l k) = false := by simp [okLen]; omega
              have hr : checkF l = 1 := by rw [checkF, if_neg (by have := HLL.out; omega), if_pos (all_hit l k (by have := HLL.out; omega) hok)]
              have HR := Lib.hid hr
              clear hr hok
              go_wp2_with fail
              go_ret
              rw [HR.out]
              exact ⟨rfl, _, rfl⟩
            · have e2 : decide (15 < nth l k) = false := by simpa using hbig
              have hok : okLen (nth l k) = true := by simp [okLen]; omega
              have HOK := Lib.hid hok
              clear hok
              go_wp2_with fail
              go_roundw
              case rel => exact ⟨k + 1, by omega, by go_num, Lib.hid (AS.out.trans (by rw [HOK.out]; rfl)), ⟨_, rfl⟩⟩
              case measure => simp [intOf]; omega
        · obtain rfl : k = n := by omega
          have htk : l.take k = l := List.take_of_length_le (by have := HLL.out; omega)
          rw [htk] at HA
          have hlen := HLL.out
          have hm := measF_le l HA.out
          have HR : Hid (checkF l = if 32768 < measF l then 30 else if measF l = 32768 then 0 else if usedF l = 1 ∧ measF l = 16384 then 0 else 31) := by
            show _ = _
            rw [checkF, if_neg (by omega), if_neg (by rw [HA.out]; simp)]
          rw [hlen] at hm
          clear htk hlen
          go_wp2_with fail
          refine (measure_calls _ _ _ _ l (HL.out.keeps (HD.out.keeps (S := [])) (off_nil _)) (by omega) HA.out).mono ?_
          rintro e w1 ⟨rfl, hd1⟩
          have HD1 := Lib.hid (HD.out.trans hd1)
          clear HD hd1
          by_cases c1 : 32768 < measF l
          · have e1 : decide ((32768 : Int) < (measF l : Int)) = true := by simp; omega
            go_wp2_with fail
            go_ret
            rw [HR.out, if_pos c1]
            exact ⟨rfl, HD1.out⟩
          · have e1 : decide ((32768 : Int) < (measF l : Int)) = false := by simp; omega
            by_cases c2 : measF l = 32768
            · have e2 : ((measF l : Int) == 32768) = true := by simp; omega
              have C2 := Lib.hid c2
              clear c2
              go_wp2_with fail
              go_ret
              rw [HR.out, if_neg c1, if_pos C2.out]
              exact ⟨rfl, HD1.out⟩
            · have e2 : ((measF l : Int) == 32768) = false := by simp; omega
              go_wp2_with fail
              refine (used_calls _ _ _ _ l (HL.out.keeps (HD1.out.keeps (S := [])) (off_nil _)) (by omega)).mono ?_
              rintro e w2 ⟨rfl, hd2⟩
              have HD2 := Lib.hid (HD1.out.trans hd2)
              clear HD1 hd2
              by_cases c3 : usedF l = 1
              · have e3 : ((usedF l : Int) == 1) = true := by simp; omega
                have C3 := Lib.hid c3
                clear c3
                by_cases c4 : measF l = 16384
                · have e4 : ((measF l : Int) == 16384) = true := by simp; omega
                  have C4 := Lib.hid c4
                  have C2 := Lib.hid c2
                  clear c4 c2
                  go_wp2_with fail
                  go_ret
                  rw [HR.out, if_neg c1, if_neg C2.out, if_pos ⟨C3.out, C4.out⟩]
                  exact ⟨rfl, HD2.out⟩
                · have e4 : ((measF l : Int) == 16384) = false := by simp; omega
                  go_wp2_with fail
                  go_ret
                  rw [HR.out, if_neg c1, if_neg c2, if_neg (fun h => c4 h.2)]
                  exact ⟨rfl, HD2.out⟩
              · have e3 : ((usedF l : Int) == 1) = false := by simp; omega
                go_wp2_with fail
                go_ret
                rw [HR.out, if_neg c1, if_neg c2, if_neg (fun h => c3 h.1)]
                exact ⟨rfl, HD2.out⟩
end Go.Proofs.Ytcblibefmclloaa
