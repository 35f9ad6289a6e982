import Derived.Test.YtcblibefmclloaaAwake3
import Derived.Test.YtcblibefmclloaaBack3
import Derived.Test.YtcblibefmclloaaMFair2
import Derived.Test.YtcblibefmclloaaRefLimErr
import Derived.Test.YtcblibefmclloaaRefLeast
import Derived.Test.YtcblibefmclloaaRefCheck2
import Derived.RegionTactic
import Derived.BigQuiet
import Derived.BigRegion
set_option linter.unusedVariables false
set_option linter.unusedSimpArgs false
namespace Go.Proofs.Ytcblibefmclloaa
open Go.RowKit
set_option maxRecDepth 100000 in
set_option maxHeartbeats 4000000 in
theorem huffLimits_walk (w : World) (A : Option Addr) (n c : Nat) (cs : List Int) (limit : Int) (hl : RI .i64 w A n cs) (hm : n ≤ maxLen) (hnil : A = none → n = 0 ∧ c = 0) (hwf : ∀ x ∈ cs, (Lit.int .i64 x).wf = true) (hw : (Lit.int .i64 limit).wf = true) :
    Calls Try.prog 4 #[.slice A n c, .int .i64 limit] w fun e w' => e = .returned (.bool true) ∧ Keeps [] w w' := by
  have HL := Lib.hid hl
  have HLL := Lib.hid hl.len
  clear hl hnil hwf hw
  go_enter Try.func4, Try.ntmps4
  by_cases hbig : 5000 < n
  · have e1 : decide (5000 < n) = true := by simpa using hbig
    have e2 : decide ((5000 : Int) < (n : Int)) = true := by simp; omega
    go_wp2_with fail
    go_ret
    exact ⟨rfl, Keeps.refl _ _⟩
  have e1 : decide (5000 < n) = false := by simpa using hbig
  have e2 : decide ((5000 : Int) < (n : Int)) = false := by simp; omega
  have hn2 : n ≤ 1048576 := by omega
  go_wp2_with fail
  refine (lent3_calls _ _ _ _ cs HL.out hn2).mono ?_
  rintro _ w1 ⟨g, rfl, hB1, hg1, hk1⟩
  have HB1 := Lib.hid hB1
  have K1 := Lib.hid hk1
  clear hB1 hk1 hg1
  go_wp2_with fail
  refine (limit_calls _ _ _ _ cs limit (by have := HB1.out.ri; rwa [HLL.out] at this)).mono ?_
  rintro e w2 ⟨v, rfl, ho, hb⟩
  have hk2 := Keeps.of_below hb (S := [])
  have HB2 := Lib.hid (HB1.out.keeps hk2 (by simp))
  have K2 := Lib.hid (K1.out.trans hk2)
  have HO := Lib.hid ho
  clear hb ho hk2 HB1 K1
  go_wp2_with fail
  refine (limitErr_calls _ _ _ _ cs limit (HL.out.keeps K2.out (off_nil _)) (by omega)).mono ?_
  rintro _ w3 ⟨rfl, hd3⟩
  have hk3 := hd3.keeps (S := [])
  have HB3 := Lib.hid (HB2.out.keeps hk3 (by simp))
  have K3 := Lib.hid (K2.out.trans hk3)
  have HO3 := Lib.hid (own_keeps HO.out hk3 (by simp))
  clear hd3 hk3 HB2 K2 HO
  go_wp2_with fail
  refine (back3_calls _ _ _ _ _ cs (HL.out.keeps K3.out (off_nil _)) HB3.out hn2).mono ?_
  rintro _ w4 ⟨rfl, hd4⟩
  have hk4 := hd4.keeps (S := [])
  have K4 := Lib.hid (K3.out.trans hk4)
  have HO4 := Lib.hid (own_keeps HO3.out hk4 (by simp))
  clear hd4 hk4 HB3 K3 HO3
  by_cases hok : (limF cs limit).2 = 0
  · obtain ⟨t, rfl, ht1, ht15, hn1, hn288, hbad, hlv, hlim⟩ := limF_ok hok
    rw [hlim] at HO4 ⊢
    obtain ⟨AL, cl, rfl, hri, _, _⟩ := own_ri HO4.out
    have hlen : (limLens cs t).length = n := by rw [limLens_len]; exact HLL.out
    have HLE : Hid ((limLens cs t).length = n) := Lib.hid hlen
    rw [show ((limLens cs (t : Nat), (0 : Int)) : List Int × Int).1.length = n from hlen] at hri ⊢
    have HRI : Hid (RI .i64 w4 AL n (limLens cs t)) := Lib.hid hri
    have HEA : Hid (∀ i, i < n → (0 < nth (limLens cs t) i ↔ 0 < nth cs i) ∧ 0 ≤ nth (limLens cs t) i ∧ nth (limLens cs t) i ≤ t) := Lib.hid (fun i hi => lim_each cs t ht1 ht15 hbad hlv i (by rw [HLL.out]; exact hi))
    have HCB : Hid (∀ i, i < n → 0 ≤ nth cs i ∧ nth cs i ≤ 1000000000000) := Lib.hid (fun i hi => nth_nn_of_ok hbad i (by rw [HLL.out]; exact hi))
    have HSB : Hid (∀ k, k ≤ n → 0 ≤ sumI k (fun i => nth cs i * nth (limLens cs t) i) ∧ sumI k (fun i => nth cs i * nth (limLens cs t) i) ≤ k * 15000000000000) := Lib.hid (fun k hk => cost_bd cs (limLens cs t) (nth_nn_of_ok hbad) (fun i hi => by have := lim_each cs t ht1 ht15 hbad hlv i hi; omega) k (by rw [HLL.out]; exact hk))
    have HUS : Hid (usedF (limLens cs t) = usedF cs) := Lib.hid (used_same _ _ (limLens_len cs t) (fun i hi => (lim_each cs t ht1 ht15 hbad hlv i hi).1))
    have HL1 : Hid (usedF cs = 1 → ∀ i, i < n → nth (limLens cs t) i ≤ 1) := Lib.hid (fun h i hi => lim_le1 cs t h i (by rw [HLL.out]; exact hi))
    have HTW : Hid (2 ≤ usedF cs → checkF (limLens cs t) = 0 ∧ sumI n (fun i => nth cs i * nth (limLens cs t) i) = leastF cs t) := Lib.hid (fun h => by rw [← HLL.out]; exact lim_two cs t hn1 hn288 ht15 hbad hlv h)
    have hn : n ≤ 288 := by rw [← HLL.out]; exact hn288
    have HBAD := Lib.hid hbad
    clear hok hlim HO4 hri hlen hbad hlv hn1 hn288
    generalize limLens cs t = L at *
    go_wp2_with fail
    go_loopw [9, 10, 11] (fun nv sv iv wr => ∃ i : Nat, i ≤ n ∧ iv = .int .i64 i ∧ nv = .int .i64 (usedF (L.take i)) ∧ sv = .int .i64 (sumI i (fun j => nth cs j * nth L j)) ∧ Hid (Keeps [] w wr) ∧ Hid (RI .i64 wr AL n L)) (fun _ _ iv _ => n - (intOf iv).toNat)
    case atStart => exact ⟨0, by omega, rfl, rfl, rfl, K4, HRI⟩
    case round =>
      clear K4 HRI
      obtain ⟨i, hi, rfl, rfl, rfl, K4, HRI⟩ := hrel
      have hu := usedF_le (L.take i)
      have htk : (L.take i).length = i := by rw [List.length_take]; have := HLE.out; omega
      rw [htk] at hu
      clear htk
      obtain ⟨wm, rfl⟩ : ∃ wm : World, wm = wr := ⟨_, rfl⟩
      by_cases hlt : i < n
      · have e3 : decide (i < n) = true := by simpa using hlt
        have US := Lib.hid (usedF_snoc L i (by have := HLE.out; omega))
        obtain ⟨s0, s1⟩ := HSB.out i hi
        have SS : Hid (sumI (i + 1) (fun j => nth cs j * nth L j) = sumI i (fun j => nth cs j * nth L j) + nth cs i * nth L i) := Lib.hid rfl
        obtain ⟨cb, co, hca, hci⟩ := (HL.out.keeps K4.out (off_nil _)).at hlt
        obtain ⟨lb, lo, hla, hli⟩ := HRI.out.at hlt
        subst hca
        subst hla
        obtain ⟨f1, f2, f3⟩ := HEA.out i hlt
        obtain ⟨f4, f5⟩ := HCB.out i hlt
        obtain ⟨p0, p1⟩ := prod_bd f4 f5 f2 (by omega)
        generalize usedF (L.take i) = U at *
        generalize sumI i (fun j => nth cs j * nth L j) = S at *
        generalize nth cs i = p at *
        generalize nth L i = q at *
        have d1 : decide (q < 0) = false := by simp; omega
        have d2 : decide ((t : Int) < q) = false := by simp; omega
        by_cases hz : 0 < q
        · have d3 : decide (0 < q) = true := by simpa using hz
          have d4 : decide (0 < p) = true := by simpa using f1.1 hz
          have HU : Hid (usedF (L.take (i + 1)) = U + 1) := by have := US.out; rwa [if_pos hz] at this
          have w1' : IntKind.i64.wrap (p * q) = p * q := IntWalk.i64_in _ (by omega)
          have w2' : IntKind.i64.wrap (S + p * q) = S + p * q := IntWalk.i64_in _ (by omega)
          clear US f1
          go_wp2_with fail
          go_quiet (fail)
          go_wp2_with fail
          go_quiet (fail)
          go_wp2_with fail
          go_roundw
          case rel => exact ⟨i + 1, by omega, by go_num, by rw [HU.out]; go_num, by rw [SS.out], Lib.hid (K4.out.drewN _), Lib.hid (HRI.out.keeps ((Keeps.refl [] wm).drewN _) (off_nil _))⟩
          case measure => simp [intOf]; omega
        · have d3 : decide (0 < q) = false := by simpa using hz
          have d4 : decide (0 < p) = false := by have : ¬ 0 < p := fun h => hz (f1.2 h); simpa using this
          have HU : Hid (usedF (L.take (i + 1)) = U) := by have := US.out; rwa [if_neg hz, Nat.add_zero] at this
          obtain rfl : q = 0 := by omega
          clear US f1
          go_wp2_with fail
          go_quiet (fail)
          go_wp2_with fail
          go_roundw
          case rel => exact ⟨i + 1, by omega, by go_num, by rw [HU.out], by rw [SS.out]; simp, Lib.hid (K4.out.drewN _), Lib.hid (HRI.out.keeps ((Keeps.refl [] wm).drewN _) (off_nil _))⟩
          case measure => simp [intOf]; omega
      · obtain rfl : i = n := by omega
        have htk : L.take i = L := List.take_of_length_le (by have := HLE.out; omega)
        rw [htk] at hu ⊢
        clear htk
        have e3 : decide (i < i) = false := by simp
        obtain ⟨s0, s1⟩ := HSB.out i hi
        have HUU := Lib.hid HUS.out
        have HTW2 : Hid (2 ≤ usedF L → checkF L = 0 ∧ sumI i (fun j => nth cs j * nth L j) = leastF cs t) := Lib.hid (by rw [HUS.out]; exact HTW.out)
        have HL12 : Hid (usedF L = 1 → ∀ j, j < i → nth L j ≤ 1) := Lib.hid (by rw [HUS.out]; exact HL1.out)
        clear HTW HL1 HUU HUS HSB HCB HEA
        generalize sumI i (fun j => nth cs j * nth L j) = S at *
        generalize usedF L = U at *
        by_cases hu0 : U = 0
        · subst hu0
          go_wp2_with fail
          refine (awake3_calls _).mono ?_
          rintro e w5 ⟨rfl, hk5⟩
          have K5 := Lib.hid (K4.out.trans hk5)
          clear hk5
          go_wp2_with fail
          go_ret
          exact ⟨rfl, K5.out⟩
        by_cases hu1 : U = 1
        · subst hu1
          have HLE1 := Lib.hid (HL12.out rfl)
          go_wp2_with fail
          go_loopw [12] (fun kv wr => ∃ k : Nat, k ≤ i ∧ kv = .int .i64 k ∧ Hid (Keeps [] wm wr)) (fun kv _ => i - (intOf kv).toNat)
          case atStart => exact ⟨0, by omega, rfl, Lib.hid (Keeps.refl _ _)⟩
          case round =>
            obtain ⟨k, hk, rfl, HK⟩ := hrel
            by_cases hki : k < i
            · have d0 : decide (k < i) = true := by simpa using hki
              obtain ⟨lb, lo, hla, hli⟩ := (HRI.out.keeps HK.out (off_nil _)).at hki
              subst hla
              have h1 := HLE1.out k hki
              generalize nth L k = q at *
              have d1 : decide (1 < q) = false := by simp; omega
              go_wp2_with fail
              go_roundw
              case rel => exact ⟨k + 1, by omega, by go_num, HK⟩
              case measure => simp [intOf]; omega
            · obtain rfl : k = i := by omega
              have d0 : decide (k < k) = false := by simp
              go_wp2_with fail
              refine (awake3_calls _).mono ?_
              rintro e w5 ⟨rfl, hk5⟩
              have K5 := Lib.hid (K4.out.trans (HK.out.trans hk5))
              clear hk5
              go_wp2_with fail
              go_ret
              exact ⟨rfl, K5.out⟩
        have hu2 : 2 ≤ U := by omega
        obtain ⟨hck, hsum⟩ := HTW2.out hu2
        have HCK := Lib.hid hck
        have HSUM := Lib.hid hsum
        have d1 : ((U : Int) == 0) = false := by simp; omega
        have d2 : ((U : Int) == 1) = false := by simp; omega
        clear hck hsum
        go_wp2_with fail
        refine (awake3_calls _).mono ?_
        rintro e w5 ⟨rfl, hk5⟩
        have K5 := Lib.hid (K4.out.trans hk5)
        have HRI5 := Lib.hid (HRI.out.keeps hk5 (off_nil _))
        clear hk5 K4 HRI
        go_wp2_with fail
        refine (refCheck_calls _ _ _ _ L HRI5.out (by omega)).mono ?_
        rintro e w6 ⟨rfl, hd6⟩
        have K6 := Lib.hid (K5.out.trans (hd6.keeps (S := [])))
        rw [HCK.out]
        clear hd6 K5 HRI5
        go_wp2_with fail
        refine (least_calls _ _ _ _ cs t (HL.out.keeps K6.out (off_nil _)) hn ht15 HBAD.out).mono ?_
        rintro e w7 ⟨rfl, hk7⟩
        have K7 := Lib.hid (K6.out.trans hk7)
        rw [← HSUM.out]
        clear hk7 K6
        go_wp2_with fail
        go_ret
        exact ⟨rfl, K7.out⟩
  · have HOK := Lib.hid hok
    have e3 : ((limF cs limit).2 != 0) = true := by simpa using hok
    rw [limF_bad hok] at HO4
    obtain ⟨A', c', rfl⟩ := own_form' HO4.out
    clear HO4 hok
    generalize (limF cs limit).2 = er at *
    go_wp2_with fail
    refine (awake3_calls _).mono ?_
    rintro e w5 ⟨rfl, hk5⟩
    have K5 := Lib.hid (K4.out.trans hk5)
    clear hk5
    go_wp2_with fail
    go_ret
    exact ⟨rfl, K5.out⟩
end Go.Proofs.Ytcblibefmclloaa
