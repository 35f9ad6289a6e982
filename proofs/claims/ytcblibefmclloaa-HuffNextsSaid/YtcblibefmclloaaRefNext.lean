import Derived.Test.YtcblibefmclloaaMNext2
import Derived.RegionTactic
import Derived.BigQuiet
import Derived.BigRegion
set_option linter.unusedVariables false
set_option linter.unusedSimpArgs false
namespace Go.Proofs.Ytcblibefmclloaa
open Go.RowKit
/-- What reading by rows is to give. -/
def Next3 (w : World) (r : Int × Nat × Int) (e : Ending) (w' : World) : Prop :=
  e = .returned (.tuple #[.int .i64 r.1, .int .i64 (r.2.1 : Nat), .int .i64 r.2.2]) ∧ Dr w w'
theorem next3 {w w' : World} {r : Int × Nat × Int} {s e k : Int} {n : Nat} (hr : r = (s, n, e)) (hk : k = n) (h : Dr w w') : Next3 w r (.returned (.tuple #[.int .i64 s, .int .i64 k, .int .i64 e])) w' := by
  subst hr; subst hk; exact ⟨rfl, h⟩
set_option maxRecDepth 100000 in
set_option maxHeartbeats 1000000 in
theorem refNext_calls (w : World) (g n : Nat) (rs : List (List Int)) (B : Option Addr) (m c : Nat) (bl : List Int) (p : Nat) (hB : RB w g n rs) (hb : RI .u8 w B m bl) (hp : p ≤ m) (hm : m ≤ 1000000) (hn : n ≤ 288) (hrow : ∀ j, (rth rs j).length ≤ 15) :
    Calls Try.prog 24 #[.slice (some ⟨g, 0, none⟩) n n, .slice B m c, .int .i64 p] w (Next3 w (nextR rs bl p)) := by
  have HB := Lib.hid hB
  have HBL := Lib.hid hb
  have HLL := Lib.hid hb.len
  have HRL := Lib.hid hB.len
  have HRW := Lib.hid hrow
  clear hB hb hrow
  go_enter Try.func24, Try.ntmps24
  go_wp2_with fail
  go_loopw [9, 10] (fun bv iv wr => ∃ (b : Bool) (i : Nat), i ≤ n ∧ bv = .bool b ∧ iv = .int .i64 i ∧ Hid (nextR rs bl p = nextG rs bl p (n - i) i b) ∧ Hid (Dr w wr)) (fun _ iv _ => n - (intOf iv).toNat)
  case atStart => exact ⟨false, 0, by omega, rfl, rfl, Lib.hid (by rw [Nat.sub_zero]; unfold nextR; rw [HRL.out]), Lib.hid ⟨0, rfl⟩⟩
  case round =>
    obtain ⟨b, i, hi, rfl, rfl, HR, HD⟩ := hrel
    obtain ⟨q, rfl⟩ := HD.out
    clear HD
    by_cases hlt : i < n
    · obtain ⟨A', c', hcr, hri, hra⟩ := HB.out.at hlt
      have e0 : decide ((i : Int) < (n : Int)) = true := by simpa using hlt
      have HST : Hid (nextG rs bl p (n - i) i b = if (rth rs i).length = 0 then nextG rs bl p (n - (i + 1)) (i + 1) b else
          if agrN (rth rs i) bl p = (rth rs i).length then ((i : Int), (rth rs i).length, 0)
          else nextG rs bl p (n - (i + 1)) (i + 1) (b || decide (p + agrN (rth rs i) bl p = bl.length))) := by
        show _ = _
        rw [show n - i = (n - (i + 1)) + 1 by omega, nextG]
      have hk15 := HRW.out i
      obtain ⟨K, hK⟩ : ∃ K, K = (rth rs i).length := ⟨_, rfl⟩
      rw [← hK] at hcr hri hk15
      have HK := Lib.hid hK
      have HRI := Lib.hid hri
      clear hK hri hra
      by_cases hz : K = 0
      · have e1 : ((K : Int) == 0) = true := by simpa using hz
        have HN : Hid (nextR rs bl p = nextG rs bl p (n - (i + 1)) (i + 1) b) := by
          show _ = _
          rw [HR.out, HST.out, if_pos (by rw [← HK.out]; exact hz)]
        clear HST HR
        go_wp2_with fail
        go_roundw
        case rel => exact ⟨b, i + 1, by omega, rfl, by go_num, HN, Lib.hid ⟨_, rfl⟩⟩
        case measure => simp [intOf]; omega
      · have e1 : ((K : Int) == 0) = false := by simpa using hz
        have HN : Hid (nextR rs bl p = if agrN (rth rs i) bl p = K then ((i : Int), K, 0)
          else nextG rs bl p (n - (i + 1)) (i + 1) (b || decide (p + agrN (rth rs i) bl p = bl.length))) := by
          show _ = _
          rw [HR.out, HST.out, if_neg (by rw [← HK.out]; exact hz), HK.out]
        have HAG0 : Hid (agrN (rth rs i) bl p = agr (rth rs i) bl p (K - 0) 0) := by
          show _ = _
          rw [Nat.sub_zero]; unfold agrN; rw [HK.out]
        clear HST HR
        go_wp2_with fail
        go_loopw [11] (fun nv wx => ∃ t : Nat, t ≤ K ∧ nv = .int .i64 t ∧ p + t ≤ m ∧ Hid (agrN (rth rs i) bl p = agr (rth rs i) bl p (K - t) t) ∧ Hid (Dr w wx)) (fun nv _ => K - (intOf nv).toNat)
        case atStart => exact ⟨0, by omega, rfl, by omega, HAG0, Lib.hid ⟨_, rfl⟩⟩
        case round =>
          clear HAG0
          obtain ⟨t, ht, rfl, hpt, HAG, HD⟩ := hrel
          obtain ⟨q2, rfl⟩ := HD.out
          clear HD
          by_cases htk : t < K
          · have e2 : decide ((t : Int) < (K : Int)) = true := by simpa using htk
            have e5 : ((t : Int) == (K : Int)) = false := by simp; omega
            by_cases hpm : p + t < m
            · have e3 : decide ((p : Int) + (t : Int) < (m : Int)) = true := by simp; omega
              have e6 : ((p : Int) + (t : Int) == (m : Int)) = false := by simp; omega
              obtain ⟨rb, ro, rfl, hc1⟩ := HRI.out.at htk
              obtain ⟨bb, bo, rfl, hc2⟩ := HBL.out.at hpm
              by_cases heq : nth (rth rs i) t = nth bl (p + t)
              · have e4 : (nth (rth rs i) t == nth bl (p + t)) = true := by simpa using heq
                have HAG2 : Hid (agrN (rth rs i) bl p = agr (rth rs i) bl p (K - (t + 1)) (t + 1)) := by
                  show _ = _
                  rw [HAG.out, show K - t = (K - (t + 1)) + 1 by omega, agr, if_pos ⟨by rw [← HK.out]; exact htk, by rw [HLL.out]; exact hpm, heq⟩]
                clear HAG
                generalize nth (rth rs i) t = x at *
                generalize nth bl (p + t) = y at *
                go_wp2_with fail
                go_quiet (fail)
                go_wp2_with fail
                go_roundw
                case rel => exact ⟨t + 1, by omega, by go_num, by omega, HAG2, Lib.hid ⟨_, rfl⟩⟩
                case measure => simp [intOf]; omega
              · have e4 : (nth (rth rs i) t == nth bl (p + t)) = false := by simpa using heq
                have HN2 : Hid (nextR rs bl p = nextG rs bl p (n - (i + 1)) (i + 1) b) := by
                  show _ = _
                  have ha : agrN (rth rs i) bl p = t := by rw [HAG.out, show K - t = (K - (t + 1)) + 1 by omega, agr, if_neg (fun h => heq h.2.2)]
                  rw [HN.out, ha, if_neg (by omega), decide_eq_false (by rw [HLL.out]; omega), Bool.or_false]
                clear HAG HN
                generalize nth (rth rs i) t = x at *
                generalize nth bl (p + t) = y at *
                cases b
                · go_wp2_with fail
                  go_quiet (fail)
                  go_wp2_with fail
                  go_roundw
                  case rel => exact ⟨false, i + 1, by omega, rfl, by go_num, HN2, Lib.hid ⟨_, rfl⟩⟩
                  case measure => simp [intOf]; omega
                · go_wp2_with fail
                  go_quiet (fail)
                  go_wp2_with fail
                  go_roundw
                  case rel => exact ⟨true, i + 1, by omega, rfl, by go_num, HN2, Lib.hid ⟨_, rfl⟩⟩
                  case measure => simp [intOf]; omega
            · have e3 : decide ((p : Int) + (t : Int) < (m : Int)) = false := by simp; omega
              have e6 : ((p : Int) + (t : Int) == (m : Int)) = true := by simp; omega
              have HN2 : Hid (nextR rs bl p = nextG rs bl p (n - (i + 1)) (i + 1) true) := by
                show _ = _
                have ha : agrN (rth rs i) bl p = t := by rw [HAG.out, show K - t = (K - (t + 1)) + 1 by omega, agr, if_neg (fun h => by have := h.2.1; rw [HLL.out] at this; omega)]
                rw [HN.out, ha, if_neg (by omega), decide_eq_true (by rw [HLL.out]; omega), Bool.or_true]
              clear HAG HN
              cases b
              · go_wp2_with fail
                go_quiet (fail)
                go_wp2_with fail
                go_roundw
                case rel => exact ⟨true, i + 1, by omega, rfl, by go_num, HN2, Lib.hid ⟨_, rfl⟩⟩
                case measure => simp [intOf]; omega
              · go_wp2_with fail
                go_quiet (fail)
                go_wp2_with fail
                go_roundw
                case rel => exact ⟨true, i + 1, by omega, rfl, by go_num, HN2, Lib.hid ⟨_, rfl⟩⟩
                case measure => simp [intOf]; omega
          · obtain rfl : t = K := by omega
            have e2 : decide ((t : Int) < (t : Int)) = false := by simp
            have e5 : ((t : Int) == (t : Int)) = true := by simp
            have HN2 : Hid (nextR rs bl p = ((i : Int), t, 0)) := by
              show _ = _
              rw [HN.out, HAG.out, Nat.sub_self, agr, if_pos rfl]
            clear HAG HN
            go_wp2_with fail
            go_quiet (fail)
            go_wp2_with fail
            go_ret3
            exact next3 HN2.out rfl ⟨_, rfl⟩
    · obtain rfl : i = n := by omega
      have e0 : decide ((i : Int) < (i : Int)) = false := by simp
      have HN : Hid (nextR rs bl p = (0, 0, if b then 10 else 32)) := by show _ = _; rw [HR.out, Nat.sub_self, nextG]
      cases b
      · go_wp2_with fail
        go_ret3
        exact next3 HN.out rfl ⟨_, rfl⟩
      · go_wp2_with fail
        go_ret3
        exact next3 HN.out rfl ⟨_, rfl⟩
end Go.Proofs.Ytcblibefmclloaa
