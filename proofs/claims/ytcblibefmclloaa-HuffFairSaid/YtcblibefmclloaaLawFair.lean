import Derived.Test.YtcblibefmclloaaAwake3
import Derived.Test.YtcblibefmclloaaMFair
import Derived.RegionTactic
import Derived.BigQuiet
import Derived.BigRegion
set_option linter.unusedVariables false
set_option linter.unusedSimpArgs false
namespace Go.Proofs.Ytcblibefmclloaa
open Go.RowKit
set_option maxRecDepth 100000 in
set_option maxHeartbeats 4000000 in
theorem huffFair_walk (w : World) (A : Option Addr) (n c : Nat) (cs : List Int) (limit : Int) (hl : RI .i64 w A n cs) (hm : n ≤ maxLen) (hnil : A = none → n = 0 ∧ c = 0) (hwf : ∀ x ∈ cs, (Lit.int .i64 x).wf = true) (hw : (Lit.int .i64 limit).wf = true) :
    Calls Try.prog 5 #[.slice A n c, .int .i64 limit] w fun e w' => e = .returned (.bool true) ∧ Keeps [] w w' := by
  have HL := Lib.hid hl
  have HLL := Lib.hid hl.len
  clear hl hnil hwf hw
  go_enter Try.func5, Try.ntmps5
  by_cases hbig : 5000 < n
  · have e1 : decide (5000 < n) = true := by simpa using hbig
    have e2 : decide ((5000 : Int) < (n : Int)) = true := by simp; omega
    go_wp2_with fail
    go_ret
    exact ⟨rfl, Keeps.refl _ _⟩
  have e1 : decide (5000 < n) = false := by simpa using hbig
  have e2 : decide ((5000 : Int) < (n : Int)) = false := by simp; omega
  go_wp2_with fail
  refine (limit_calls _ _ _ _ cs limit HL.out).mono ?_
  rintro e w1 ⟨v, rfl, ho, hb⟩
  have K1 := Lib.hid (Keeps.of_below hb (S := []))
  have HL1 := Lib.hid (HL.out.keeps K1.out (off_nil _))
  have HO := Lib.hid ho
  clear hb ho HL
  by_cases hok : (limF cs limit).2 = 0
  · obtain ⟨t, rfl, ht1, ht15, hn1, hn288, hbad, hlv, hlim⟩ := limF_ok hok
    rw [hlim] at HO ⊢
    obtain ⟨AL, cl, rfl, hri, _, _⟩ := own_ri HO.out
    have hlen : (limLens cs t).length = n := by rw [limLens_len]; exact HLL.out
    have HLE : Hid ((limLens cs t).length = n) := Lib.hid hlen
    rw [show ((limLens cs (t : Nat), (0 : Int)) : List Int × Int).1.length = n from hlen] at hri ⊢
    have HRI : Hid (RI .i64 w1 AL n (limLens cs t)) := Lib.hid hri
    have HFA : Hid (∀ i k, i < n → k < n → 0 < nth cs i → nth cs i < nth cs k → nth (limLens cs t) k ≤ nth (limLens cs t) i) := Lib.hid (fun i k hi hk => fair_all cs t hbad hlv i k (by rw [HLL.out]; exact hi) (by rw [HLL.out]; exact hk))
    have HCK : Hid (usedF cs ≠ 0 → checkF (limLens cs t) = 0) := Lib.hid (check_all cs t ht15 hn1 hn288 hbad hlv)
    have hn : n ≤ 288 := by rw [← HLL.out]; exact hn288
    clear hok hlim HO hri hlen hbad hlv hn1 hn288
    generalize limLens cs t = L at *
    go_wp2_with fail
    go_loopw [7, 8] (fun nv iv wr => ∃ i : Nat, i ≤ n ∧ iv = .int .i64 i ∧ nv = .int .i64 (usedF (cs.take i)) ∧ Hid (Keeps [] w1 wr)) (fun _ iv _ => n - (intOf iv).toNat)
    case atStart => exact ⟨0, by omega, rfl, rfl, Lib.hid (Keeps.refl _ _)⟩
    case round =>
      obtain ⟨i, hi, rfl, rfl, HK⟩ := hrel
      have hu := usedF_le (cs.take i)
      have htk : (cs.take i).length = i := by rw [List.length_take]; have := HLL.out; omega
      rw [htk] at hu
      clear htk
      obtain ⟨wm, rfl⟩ : ∃ wm : World, wm = wr := ⟨_, rfl⟩
      by_cases hlt : i < n
      · have e3 : decide (i < n) = true := by simpa using hlt
        have US := Lib.hid (usedF_snoc cs i (by have := HLL.out; omega))
        generalize usedF (cs.take i) = U at *
        obtain ⟨cb, co, hca, hci⟩ := (HL1.out.keeps HK.out (off_nil _)).at hlt
        obtain ⟨lb, lo, hla, hli⟩ := (HRI.out.keeps HK.out (off_nil _)).at hlt
        subst hca
        subst hla
        by_cases hz : 0 < nth cs i
        · have e4 : decide (0 < nth cs i) = true := by simpa using hz
          have HU : Hid (usedF (cs.take (i + 1)) = U + 1) := by have := US.out; rwa [if_pos hz] at this
          go_wp2_with fail
          go_loopw [9] (fun kv wx => ∃ k : Nat, k ≤ i ∧ kv = .int .i64 k ∧ Hid (Keeps [] w1 wx)) (fun kv _ => i - (intOf kv).toNat)
          case atStart => exact ⟨0, by omega, rfl, HK⟩
          case round =>
            clear HK hci hli
            obtain ⟨k, hk, rfl, HK⟩ := hrel
            by_cases hki : k < i
            · have e5 : decide (k < i) = true := by simpa using hki
              have hkn : k < n := by omega
              have c1 := (HL1.out.keeps HK.out (off_nil _)).cell cb co rfl k hkn
              have c2 := (HL1.out.keeps HK.out (off_nil _)).cell cb co rfl i hlt
              have c3 := (HRI.out.keeps HK.out (off_nil _)).cell lb lo rfl k hkn
              have c4 := (HRI.out.keeps HK.out (off_nil _)).cell lb lo rfl i hlt
              have f1 := HFA.out i k hlt hkn
              have f2 := HFA.out k i hkn hlt
              clear e4 HU US hz HCK
              generalize nth cs k = a at *
              generalize nth cs i = b at *
              generalize nth L k = p at *
              generalize nth L i = q at *
              by_cases h1 : b < a
              · have d1 : decide (b < a) = true := by simpa using h1
                have d4 : decide (a < b) = false := by simp; omega
                by_cases h2 : 0 < b
                · have d2 : decide (0 < b) = true := by simpa using h2
                  have d3 : decide (q < p) = false := by have := f1 h2 h1; simp; omega
                  clear f1 f2
                  go_wp2_with fail
                  go_quiet (fail)
                  go_wp2_with fail
                  go_roundw
                  case rel => exact ⟨k + 1, by omega, by go_num, Lib.hid (HK.out.drewN _)⟩
                  case measure => simp [intOf]; omega
                · have d2 : decide (0 < b) = false := by simpa using h2
                  clear f1 f2
                  go_wp2_with fail
                  go_quiet (fail)
                  go_wp2_with fail
                  go_roundw
                  case rel => exact ⟨k + 1, by omega, by go_num, Lib.hid (HK.out.drewN _)⟩
                  case measure => simp [intOf]; omega
              · have d1 : decide (b < a) = false := by simpa using h1
                by_cases h3 : a < b
                · have d4 : decide (a < b) = true := by simpa using h3
                  by_cases h2 : 0 < a
                  · have d2 : decide (0 < a) = true := by simpa using h2
                    have d3 : decide (p < q) = false := by have := f2 h2 h3; simp; omega
                    clear f1 f2
                    go_wp2_with fail
                    go_quiet (fail)
                    go_wp2_with fail
                    go_roundw
                    case rel => exact ⟨k + 1, by omega, by go_num, Lib.hid (HK.out.drewN _)⟩
                    case measure => simp [intOf]; omega
                  · have d2 : decide (0 < a) = false := by simpa using h2
                    clear f1 f2
                    go_wp2_with fail
                    go_quiet (fail)
                    go_wp2_with fail
                    go_roundw
                    case rel => exact ⟨k + 1, by omega, by go_num, Lib.hid (HK.out.drewN _)⟩
                    case measure => simp [intOf]; omega
                · have d4 : decide (a < b) = false := by simpa using h3
                  clear f1 f2
                  go_wp2_with fail
                  go_quiet (fail)
                  go_wp2_with fail
                  go_roundw
                  case rel => exact ⟨k + 1, by omega, by go_num, Lib.hid (HK.out.drewN _)⟩
                  case measure => simp [intOf]; omega
            · obtain rfl : k = i := by omega
              have e5 : decide (k < k) = false := by simp
              go_wp2_with fail
              go_roundw
              case rel => exact ⟨k + 1, by omega, by go_num, by rw [HU.out]; go_num, HK⟩
              case measure => simp [intOf]; omega
        · have e4 : decide (0 < nth cs i) = false := by simpa using hz
          have HU : Hid (usedF (cs.take (i + 1)) = U) := by have := US.out; rwa [if_neg hz, Nat.add_zero] at this
          go_wp2_with fail
          go_loopw [9] (fun kv wx => ∃ k : Nat, k ≤ i ∧ kv = .int .i64 k ∧ Hid (Keeps [] w1 wx)) (fun kv _ => i - (intOf kv).toNat)
          case atStart => exact ⟨0, by omega, rfl, HK⟩
          case round =>
            clear HK hci hli
            obtain ⟨k, hk, rfl, HK⟩ := hrel
            by_cases hki : k < i
            · have e5 : decide (k < i) = true := by simpa using hki
              have hkn : k < n := by omega
              have c1 := (HL1.out.keeps HK.out (off_nil _)).cell cb co rfl k hkn
              have c2 := (HL1.out.keeps HK.out (off_nil _)).cell cb co rfl i hlt
              have c3 := (HRI.out.keeps HK.out (off_nil _)).cell lb lo rfl k hkn
              have c4 := (HRI.out.keeps HK.out (off_nil _)).cell lb lo rfl i hlt
              have f1 := HFA.out i k hlt hkn
              have f2 := HFA.out k i hkn hlt
              clear e4 HU US hz HCK
              generalize nth cs k = a at *
              generalize nth cs i = b at *
              generalize nth L k = p at *
              generalize nth L i = q at *
              by_cases h1 : b < a
              · have d1 : decide (b < a) = true := by simpa using h1
                have d4 : decide (a < b) = false := by simp; omega
                by_cases h2 : 0 < b
                · have d2 : decide (0 < b) = true := by simpa using h2
                  have d3 : decide (q < p) = false := by have := f1 h2 h1; simp; omega
                  clear f1 f2
                  go_wp2_with fail
                  go_quiet (fail)
                  go_wp2_with fail
                  go_roundw
                  case rel => exact ⟨k + 1, by omega, by go_num, Lib.hid (HK.out.drewN _)⟩
                  case measure => simp [intOf]; omega
                · have d2 : decide (0 < b) = false := by simpa using h2
                  clear f1 f2
                  go_wp2_with fail
                  go_quiet (fail)
                  go_wp2_with fail
                  go_roundw
                  case rel => exact ⟨k + 1, by omega, by go_num, Lib.hid (HK.out.drewN _)⟩
                  case measure => simp [intOf]; omega
              · have d1 : decide (b < a) = false := by simpa using h1
                by_cases h3 : a < b
                · have d4 : decide (a < b) = true := by simpa using h3
                  by_cases h2 : 0 < a
                  · have d2 : decide (0 < a) = true := by simpa using h2
                    have d3 : decide (p < q) = false := by have := f2 h2 h3; simp; omega
                    clear f1 f2
                    go_wp2_with fail
                    go_quiet (fail)
                    go_wp2_with fail
                    go_roundw
                    case rel => exact ⟨k + 1, by omega, by go_num, Lib.hid (HK.out.drewN _)⟩
                    case measure => simp [intOf]; omega
                  · have d2 : decide (0 < a) = false := by simpa using h2
                    clear f1 f2
                    go_wp2_with fail
                    go_quiet (fail)
                    go_wp2_with fail
                    go_roundw
                    case rel => exact ⟨k + 1, by omega, by go_num, Lib.hid (HK.out.drewN _)⟩
                    case measure => simp [intOf]; omega
                · have d4 : decide (a < b) = false := by simpa using h3
                  clear f1 f2
                  go_wp2_with fail
                  go_quiet (fail)
                  go_wp2_with fail
                  go_roundw
                  case rel => exact ⟨k + 1, by omega, by go_num, Lib.hid (HK.out.drewN _)⟩
                  case measure => simp [intOf]; omega
            · obtain rfl : k = i := by omega
              have e5 : decide (k < k) = false := by simp
              go_wp2_with fail
              go_roundw
              case rel => exact ⟨k + 1, by omega, by go_num, by rw [HU.out], HK⟩
              case measure => simp [intOf]; omega
      · obtain rfl : i = n := by omega
        have htk : cs.take i = cs := List.take_of_length_le (by have := HLL.out; omega)
        rw [htk] at hu ⊢
        have e3 : decide (i < i) = false := by simp
        go_wp2_with fail
        refine (awake3_calls _).mono ?_
        rintro e w3 ⟨rfl, hk3⟩
        have HRI3 := Lib.hid (HRI.out.keeps (HK.out.trans hk3) (off_nil _))
        have K3 := Lib.hid (K1.out.trans (HK.out.trans hk3))
        clear hk3 HK
        by_cases hu0 : usedF cs = 0
        · rw [hu0]
          go_wp2_with fail
          go_ret
          exact ⟨rfl, K3.out⟩
        · have e4 : ((usedF cs : Int) == 0) = false := by simpa using hu0
          have HC0 := Lib.hid (HCK.out hu0)
          go_wp2_with fail
          refine (check_calls _ _ _ _ L HRI3.out (by omega)).mono ?_
          rintro e w4 ⟨rfl, hd4⟩
          have K4 := Lib.hid (K3.out.trans (hd4.keeps (S := [])))
          rw [HC0.out]
          clear hd4
          go_wp2_with fail
          go_ret
          exact ⟨rfl, K4.out⟩
  · have HOK := Lib.hid hok
    have e3 : ((limF cs limit).2 != 0) = true := by simpa using hok
    obtain ⟨A', c', rfl⟩ := own_form' HO.out
    clear HO hok
    generalize (limF cs limit).2 = er at *
    generalize (limF cs limit).1.length = K at *
    go_wp2_with fail
    refine (awake3_calls _).mono ?_
    rintro e w3 ⟨rfl, hk3⟩
    have K3 := Lib.hid (K1.out.trans hk3)
    clear hk3
    go_wp2_with fail
    go_ret
    exact ⟨rfl, K3.out⟩
end Go.Proofs.Ytcblibefmclloaa
