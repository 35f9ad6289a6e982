import Derived.Test.YtcblibefmclloaaInsSort
set_option linter.unusedVariables false
set_option linter.unusedSimpArgs false
namespace Go.Proofs.Ytcblibefmclloaa
open Go.RowKit
/-- Where a yes-no row turns from yes to no. -/
structure Turn (P : Nat → Prop) (lo i j hi : Nat) : Prop where
  a : lo ≤ i
  b : i ≤ j
  c : j ≤ hi
  yes : ∀ k, lo ≤ k → k < i → P k
  no : ∀ k, j ≤ k → k < hi → ¬ P k
theorem Turn.start (P : Nat → Prop) {lo hi : Nat} (h : lo ≤ hi) : Turn P lo lo hi hi := ⟨Nat.le_refl _, h, Nat.le_refl _, fun k a b => by omega, fun k a b => by omega⟩
theorem Turn.up {P : Nat → Prop} {lo i j hi m : Nat} (h : Turn P lo i j hi) (h1 : i ≤ m) (h2 : m < j) (hm : ∀ k, lo ≤ k → k ≤ m → P m → P k) (hp : P m) : Turn P lo (m + 1) j hi :=
  ⟨by have := h.a; omega, by omega, h.c, fun k a b => hm k a (by omega) hp, h.no⟩
theorem Turn.down {P : Nat → Prop} {lo i j hi m : Nat} (h : Turn P lo i j hi) (h1 : i ≤ m) (h2 : m < j) (hm : ∀ k, m ≤ k → k < hi → P k → P m) (hp : ¬ P m) : Turn P lo i m hi :=
  ⟨h.a, h1, by have := h.c; omega, h.yes, fun k a b hk => hp (hm k a b hk)⟩
theorem kth_mono {t : List Pk} (h : srt t) {i j : Nat} (hij : i ≤ j) (hj : j < t.length) : (kth t i).w ≤ (kth t j).w := by
  rcases Nat.eq_or_lt_of_le hij with rfl | hlt
  · exact Int.le_refl _
  · rw [kth_lt hj, kth_lt (by omega)]
    exact List.pairwise_iff_getElem.1 h i j (by omega) hj hlt
theorem kth_mem {t : List Pk} {i : Nat} (h : i < t.length) : kth t i ∈ t := by rw [kth_lt h]; exact List.getElem_mem h
theorem mem_kth {t : List Pk} {p : Pk} (h : p ∈ t) : ∃ i, i < t.length ∧ kth t i = p := by
  obtain ⟨i, hi, rfl⟩ := List.mem_iff_getElem.1 h
  exact ⟨i, hi, kth_lt hi⟩
theorem kth_take {t : List Pk} {i k : Nat} (h : i < k) : kth (t.take k) i = kth t i := by simp [kth, List.getD, List.getElem?_take, h]
theorem kth_drop {t : List Pk} {i k : Nat} : kth (t.drop k) i = kth t (k + i) := by simp [kth, List.getD]
/-- One pack ahead of sorted ones, put at its place. -/
theorem ss_one_left {p : Pk} {t1 t2 : List Pk} (h : srt (t1 ++ t2)) (h1 : ∀ q ∈ t1, q.w < p.w) (h2 : ∀ q ∈ t2, p.w ≤ q.w) : SS (t1 ++ p :: t2) (p :: (t1 ++ t2)) := by
  refine ⟨srt_app (srt_left h) (List.pairwise_cons.2 ⟨fun q hq => h2 q hq, srt_right h⟩) ?_, ?_⟩
  · intro q hq r hr
    rcases List.mem_cons.1 hr with rfl | hr
    · exact Int.le_of_lt (h1 q hq)
    · exact srt_le h q hq r hr
  · have := (same_swap [p] t1 (fun r hr q hq => by rw [List.mem_singleton.1 hr]; have := h1 q hq; omega)).app (same.refl t2)
    simpa using this
set_option maxRecDepth 100000 in
set_option maxHeartbeats 2000000 in
theorem symLeft_calls (w : World) (g : Nat) (x t y : List Pk) (p : Pk) (R : List Value) (n c a m b : Nat) (h : PB w g (x ++ (p :: (t ++ y))) R) (hn : n = (x ++ (p :: (t ++ y))).length) (hw : okW (x ++ (p :: (t ++ y))))
    (h1 : a = x.length) (h2 : m = x.length + 1) (h3 : b = x.length + 1 + t.length) (ht : srt t) (hsz : n ≤ 1000000) :
    Calls Try.prog 47 #[.slice (some ⟨g, 0, none⟩) n c, .int .i64 a, .int .i64 m, .int .i64 b, theCmp] w fun e w' => e = .returned (.tuple #[]) ∧ ∃ r, SS r (p :: t) ∧ PB w' g (x ++ (r ++ y)) R ∧ Keeps [g] w w' := by
  have H := Lib.hid h
  have hl : n = x.length + (1 + (t.length + y.length)) := by rw [hn]; simp only [List.length_append, List.length_cons]; omega
  have HL := Lib.hid hl
  have H1 := Lib.hid h1
  have H2 := Lib.hid h2
  have H3 := Lib.hid h3
  have HW := Lib.hid hw
  have HT := Lib.hid ht
  have ham : Hid (m = a + 1) := by show _ = _; omega
  have b2 : m ≤ b := by omega
  have b3 : b ≤ n := by omega
  have b4 : a < n := by omega
  have b5 : m ≤ n := by omega
  have e1 : IntKind.i64.wrap ((m : Int) - a) = (m : Int) - a := IntWalk.i64_in _ (by omega)
  have e2 : ((m : Int) - a == 1) = true := by simp; omega
  clear h hl h1 h2 h3 hn hw ht
  go_enter Try.func47, Try.ntmps47
  go_wp2_with fail
  go_loopw [10, 11] (fun iv jv wr => ∃ (i j : Nat), iv = .int .i64 i ∧ jv = .int .i64 j ∧ i ≤ j ∧ j ≤ b ∧ m ≤ i ∧ Hid (Turn (fun k => (kth (x ++ (p :: (t ++ y))) k).w < p.w) m i j b) ∧ Hid (PB wr g (x ++ (p :: (t ++ y))) R) ∧ Hid (Keeps [g] w wr)) (fun iv jv _ => (intOf jv - intOf iv).toNat)
  case atStart => exact ⟨m, b, rfl, rfl, b2, by omega, by omega, Lib.hid (Turn.start _ b2), H, Lib.hid (Keeps.refl _ _)⟩
  case round =>
    clear H
    obtain ⟨i, j, rfl, rfl, hij, hjb, hmi, HTN, HB, HK⟩ := hrel
    obtain ⟨wo, rfl⟩ : ∃ wo : World, wo = wr := ⟨_, rfl⟩
    by_cases hlt : i < j
    · have e0 : decide (i < j) = true := by simpa using hlt
      obtain ⟨h, hh⟩ : ∃ h : Nat, h = (i + j) / 2 := ⟨_, rfl⟩
      have s0 : ((i : Int) + j) / 2 = (h : Int) := by omega
      have hih : i ≤ h := by omega
      have hhj : h < j := by omega
      have s1 : (h : Int) < n := by omega
      have hln : Hid ((x ++ (p :: (t ++ y))).length = n) := by have := HL.out; show _ = _; simp only [List.length_append, List.length_cons]; omega
      obtain ⟨p1, p2⟩ := HB.out.cell (j := h) (by have := hln.out; omega)
      obtain ⟨q1, q2⟩ := HB.out.cell (j := a) (by have := hln.out; omega)
      have k1 : kth (x ++ (p :: (t ++ y))) a = p := by rw [H1.out, kth_app, if_neg (by omega), Nat.sub_self]; rfl
      rw [k1] at q1 q2
      obtain ⟨we, we1⟩ := okW_mem.1 HW.out _ (kth_mem (t := x ++ (p :: (t ++ y))) (i := h) (by have := hln.out; omega))
      obtain ⟨wp, wp1⟩ := okW_mem.1 HW.out p (by simp)
      have hu : Hid (∃ u, u = kth (x ++ (p :: (t ++ y))) h) := ⟨_, rfl⟩
      obtain ⟨u, hu⟩ := hu.out
      rw [← hu] at p1 p2 we we1
      have HU := Lib.hid hu
      have HH := Lib.hid hh
      clear hu k1 hh
      go_wp2_with fail
      go_still_tail 9, (by kernel_rfl)
      change wpList _ _ _ _ _ wo.drew
      go_wp2_with fail
      refine (lighter_calls _ _ _ _ _ _ _ _ _ we we1 wp wp1).mono ?_
      rintro _ w1 ⟨rfl, hk⟩
      have HK1 := Lib.hid (HK.out.trans ((Keeps.refl [g] wo).drew.trans (hk.mono (by simp))))
      have HB3 := Lib.hid (HB.out.keeps ((Keeps.refl [] wo).drew.trans hk) (by simp))
      clear hk HB HK p1 p2 q1 q2
      have hmono : Hid (∀ k1 k2, m ≤ k1 → k1 ≤ k2 → k2 < b → (kth (x ++ (p :: (t ++ y))) k1).w ≤ (kth (x ++ (p :: (t ++ y))) k2).w) := by
        intro k1 k2 g1 g2 g3
        have d1 := H2.out; have d3 := H3.out
        have e : ∀ k, m ≤ k → k < b → kth (x ++ (p :: (t ++ y))) k = kth t (k - m) := by
          intro k f1 f2
          rw [kth_app, if_neg (by omega), show p :: (t ++ y) = [p] ++ (t ++ y) from rfl, kth_app, if_neg (by simp; omega), kth_app, if_pos (by simp; omega)]
          congr 1; simp; omega
        rw [e k1 g1 (by omega), e k2 (by omega) g3]
        exact kth_mono HT.out (by omega) (by omega)
      by_cases hlt : u.w < p.w
      · have e2 : decide (u.w - p.w < 0) = true := by simp; omega
        go_wp2_with fail
        refine ⟨⟨h + 1, j, by go_num, rfl, by omega, by omega, by omega, Lib.hid (HTN.out.up hih hhj (fun k g1 g2 g3 => ?_) ?_), HB3, HK1⟩, by simp [intOf]; omega⟩
        · exact Int.lt_of_le_of_lt (hmono.out k h g1 g2 (by omega)) g3
        · show (kth _ h).w < p.w; rw [← HU.out]; exact hlt
      · have e2 : decide (u.w - p.w < 0) = false := by simp; omega
        go_wp2_with fail
        refine ⟨⟨i, h, rfl, rfl, by omega, by omega, by omega, Lib.hid (HTN.out.down hih hhj (fun k g1 g2 g3 => ?_) ?_), HB3, HK1⟩, by simp [intOf]; omega⟩
        · exact Int.lt_of_le_of_lt (hmono.out h k (by omega) g1 g2) g3
        · show ¬ (kth _ h).w < p.w; rw [← HU.out]; omega
    · have e0 : decide (i < j) = false := by simpa using hlt
      obtain rfl : i = j := by omega
      have e3 : IntKind.i64.wrap ((i : Int) - 1) = (i : Int) - 1 := IntWalk.i64_in _ (by omega)
      have HB0 : Hid (PB wo g (x ++ (t.take 0 ++ (p :: (t.drop 0 ++ y)))) R) := HB
      have hi0 : 1 ≤ i := by have := ham.out; omega
      clear HB
      go_wp2_with fail
      go_loopw [13] (fun kv wr => ∃ (K q : Nat), kv = .int .i64 K ∧ K < i ∧ Hid (K = a + q) ∧ Hid (PB wr g (x ++ (t.take q ++ (p :: (t.drop q ++ y)))) R) ∧ Hid (Keeps [g] w wr)) (fun kv _ => (i - intOf kv).toNat)
      case atStart => exact ⟨a, 0, rfl, by have := ham.out; omega, Lib.hid rfl, HB0, HK⟩
      case round =>
        clear HB0 HK
        obtain ⟨K, q, rfl, hKi, HKq, HB, HK⟩ := hrel
        by_cases hlt2 : K + 1 < i
        · have e4 : decide ((K : Int) < (i : Int) - 1) = true := by simp; omega
          have hq : q < t.length := by have := HKq.out; have := H1.out; have := H3.out; omega
          have HKA : Hid (K = (x ++ t.take q).length) := by have := HKq.out; have := H1.out; show _ = _; rw [List.length_append, List.length_take]; omega
          have HB2 : Hid (PB wr g ((x ++ t.take q) ++ p :: t[q] :: (t.drop (q + 1) ++ y)) R) := by
            have := HB.out; rw [List.drop_eq_getElem_cons hq] at this; simp only [List.append_assoc, List.cons_append] at *; exact this
          have HE : Hid (t.take (q + 1) = t.take q ++ [t[q]]) := List.take_succ_eq_append_getElem hq
          have HLN : Hid (K + 1 < ((x ++ t.take q) ++ p :: t[q] :: (t.drop (q + 1) ++ y)).length) := by rw [HKA.out]; show _ < _; simp only [List.length_append, List.length_cons]; omega
          generalize t[q] = e at *
          obtain ⟨p1, p2⟩ := HB2.out.cell (j := K) (by have := HLN.out; omega)
          obtain ⟨q1, q2⟩ := HB2.out.cell (j := K + 1) HLN.out
          have k1 : kth ((x ++ t.take q) ++ p :: e :: (t.drop (q + 1) ++ y)) K = p := by rw [HKA.out, kth_app, if_neg (by omega), Nat.sub_self]; rfl
          have k2 : kth ((x ++ t.take q) ++ p :: e :: (t.drop (q + 1) ++ y)) (K + 1) = e := by rw [HKA.out, kth_app, if_neg (by omega), show (x ++ t.take q).length + 1 - (x ++ t.take q).length = 1 by omega]; rfl
          rw [k1] at p1 p2
          rw [k2] at q1 q2
          have K1 := Lib.hid k1
          have K2 := Lib.hid k2
          have f1 := HB2.out.free (K * 2)
          have f2 := HB2.out.free (K * 2 + 1)
          have f3 := HB2.out.free ((K + 1) * 2)
          have f4 := HB2.out.free ((K + 1) * 2 + 1)
          have s1 : ((K : Int) + 1).toNat = K + 1 := by omega
          have s2 : (0 : Int) ≤ (K : Int) + 1 := by omega
          have s3 : (K : Int) + 1 < (n : Int) := by omega
          have s4 : (K : Int) < (n : Int) := by omega
          clear k1 k2 HB hq
          go_wp2_with fail
          go_region
          go_wp2_with fail
          go_roundw
          case rel =>
            refine ⟨K + 1, q + 1, by go_num, by omega, Lib.hid (by have := HKq.out; omega), Lib.hid ?_, Lib.hid ((((((HK.out.put _).put _).put _).put _)).drew)⟩
            have hs := set_two _ K (K + 1) (by have := HLN.out; omega) HLN.out wr g R HB2.out (by omega)
            rw [K1.out, K2.out] at hs
            have hz := swp_adj (x ++ t.take q) (t.drop (q + 1) ++ y) p e
            rw [← HKA.out] at hz
            rw [hz] at hs
            have := hs.dr (Dr.refl _).drew
            rw [HE.out]
            simp only [List.append_assoc, List.cons_append, List.nil_append] at this ⊢
            exact this
          case measure => simp [intOf]; omega
        · have e4 : decide ((K : Int) < (i : Int) - 1) = false := by simp; omega
          go_wp2_with fail
          refine bodyPost_ret (results_none rfl _ _ _) rfl ?_
          refine ⟨rfl, t.take q ++ p :: t.drop q, ?_, ?_, HK.out⟩
          · have hs := ss_one_left (p := p) (t1 := t.take q) (t2 := t.drop q) (by rw [List.take_append_drop]; exact HT.out) ?_ ?_
            · rwa [List.take_append_drop] at hs
            · intro r hr
              obtain ⟨d, hd, rfl⟩ := mem_kth hr
              rw [List.length_take] at hd
              have := HTN.out.yes (m + d) (by omega) (by have := HKq.out; have := ham.out; omega)
              have d2 := H2.out
              rw [kth_app, if_neg (by omega), show p :: (t ++ y) = [p] ++ (t ++ y) from rfl, kth_app, if_neg (by simp; omega), kth_app, if_pos (by simp; omega)] at this
              rw [kth_take (by omega)]
              rwa [show m + d - x.length - [p].length = d by simp; omega] at this
            · intro r hr
              obtain ⟨d, hd, rfl⟩ := mem_kth hr
              rw [List.length_drop] at hd
              have d2 := H2.out
              have d3 := H3.out
              have := HTN.out.no (m + (q + d)) (by have := HKq.out; have := ham.out; omega) (by omega)
              rw [kth_app, if_neg (by omega), show p :: (t ++ y) = [p] ++ (t ++ y) from rfl, kth_app, if_neg (by simp; omega), kth_app, if_pos (by simp; omega)] at this
              rw [kth_drop]
              rw [show m + (q + d) - x.length - [p].length = q + d by simp; omega] at this
              omega
          · have := HB.out
            simp only [List.append_assoc, List.cons_append] at this ⊢
            exact this
end Go.Proofs.Ytcblibefmclloaa
