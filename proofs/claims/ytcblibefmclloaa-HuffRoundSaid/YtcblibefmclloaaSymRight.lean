import Derived.Test.YtcblibefmclloaaSymLeft
set_option linter.unusedVariables false
set_option linter.unusedSimpArgs false
namespace Go.Proofs.Ytcblibefmclloaa
open Go.RowKit
set_option maxRecDepth 100000 in
set_option maxHeartbeats 2000000 in
theorem symRight_calls (w : World) (g : Nat) (x s y : List Pk) (q : Pk) (R : List Value) (n c a m b : Nat) (h : PB w g (x ++ (s ++ (q :: y))) R) (hn : n = (x ++ (s ++ (q :: y))).length) (hw : okW (x ++ (s ++ (q :: y))))
    (h1 : a = x.length) (h2 : m = x.length + s.length) (h3 : b = x.length + s.length + 1) (hs2 : s.length ≠ 1) (ht : srt s) (hsz : n ≤ 1000000) :
    Calls Try.prog 47 #[.slice (some ⟨g, 0, none⟩) n c, .int .i64 a, .int .i64 m, .int .i64 b, theCmp] w fun e w' => e = .returned (.tuple #[]) ∧ ∃ r, SS r (s ++ [q]) ∧ PB w' g (x ++ (r ++ y)) R ∧ Keeps [g] w w' := by
  have H := Lib.hid h
  have hl : n = x.length + (s.length + (1 + y.length)) := by rw [hn]; simp only [List.length_append, List.length_cons]; omega
  have HL := Lib.hid hl
  have H1 := Lib.hid h1
  have H2 := Lib.hid h2
  have H3 := Lib.hid h3
  have HW := Lib.hid hw
  have HT := Lib.hid ht
  have b2 : a ≤ m := by omega
  have b3 : m < n := by omega
  have e1 : IntKind.i64.wrap ((m : Int) - a) = (m : Int) - a := IntWalk.i64_in _ (by omega)
  have e2 : ((m : Int) - a == 1) = false := by simp; omega
  have e3 : IntKind.i64.wrap ((b : Int) - m) = (b : Int) - m := IntWalk.i64_in _ (by omega)
  have e4 : ((b : Int) - m == 1) = true := by simp; omega
  clear h hl h1 h2 h3 hn hw ht
  go_enter Try.func47, Try.ntmps47
  go_wp2_with fail
  go_loopw [14, 15] (fun iv jv wr => ∃ (i j : Nat), iv = .int .i64 i ∧ jv = .int .i64 j ∧ i ≤ j ∧ j ≤ m ∧ a ≤ i ∧ Hid (Turn (fun k => (kth (x ++ (s ++ (q :: y))) k).w ≤ q.w) a i j m) ∧ Hid (PB wr g (x ++ (s ++ (q :: y))) R) ∧ Hid (Keeps [g] w wr)) (fun iv jv _ => (intOf jv - intOf iv).toNat)
  case atStart => exact ⟨a, m, rfl, rfl, b2, by omega, by omega, Lib.hid (Turn.start _ b2), H, Lib.hid (Keeps.refl _ _)⟩
  case round =>
    clear H
    obtain ⟨i, j, rfl, rfl, hij, hjb, hmi, HTN, HB, HK⟩ := hrel
    obtain ⟨wo, rfl⟩ : ∃ wo : World, wo = wr := ⟨_, rfl⟩
    by_cases hlt : i < j
    · have e0 : decide (i < j) = true := by simpa using hlt
      obtain ⟨h, hh⟩ : ∃ h : Nat, h = (i + j) / 2 := ⟨_, rfl⟩
      have s0 : ((i : Int) + j) / 2 = (h : Int) := by omega
      have hih : i ≤ h := by omega
      have hhj : h < j := by omega
      have s1 : (h : Int) < n := by omega
      have hln : Hid ((x ++ (s ++ (q :: y))).length = n) := by have := HL.out; show _ = _; simp only [List.length_append, List.length_cons]; omega
      obtain ⟨p1, p2⟩ := HB.out.cell (j := h) (by have := hln.out; omega)
      obtain ⟨q1, q2⟩ := HB.out.cell (j := m) (by have := hln.out; omega)
      have k1 : kth (x ++ (s ++ (q :: y))) m = q := by rw [H2.out, kth_app, if_neg (by omega), kth_app, if_neg (by omega), show x.length + s.length - x.length - s.length = 0 by omega]; rfl
      rw [k1] at q1 q2
      obtain ⟨we, we1⟩ := okW_mem.1 HW.out _ (kth_mem (t := x ++ (s ++ (q :: y))) (i := h) (by have := hln.out; omega))
      obtain ⟨wp, wp1⟩ := okW_mem.1 HW.out q (by simp)
      have hu : Hid (∃ u, u = kth (x ++ (s ++ (q :: y))) h) := ⟨_, rfl⟩
      obtain ⟨u, hu⟩ := hu.out
      rw [← hu] at p1 p2 we we1
      have HU := Lib.hid hu
      have HH := Lib.hid hh
      clear hu k1 hh
      go_wp2_with fail
      go_still_tail 9, (by kernel_rfl)
      change wpList _ _ _ _ _ wo.drew
      go_wp2_with fail
      refine (lighter_calls _ _ _ _ _ _ _ _ _ wp wp1 we we1).mono ?_
      rintro _ w1 ⟨rfl, hk⟩
      have HK1 := Lib.hid (HK.out.trans ((Keeps.refl [g] wo).drew.trans (hk.mono (by simp))))
      have HB3 := Lib.hid (HB.out.keeps ((Keeps.refl [] wo).drew.trans hk) (by simp))
      clear hk HB HK p1 p2 q1 q2
      have hmono : Hid (∀ k1 k2, a ≤ k1 → k1 ≤ k2 → k2 < m → (kth (x ++ (s ++ (q :: y))) k1).w ≤ (kth (x ++ (s ++ (q :: y))) k2).w) := by
        intro k1 k2 g1 g2 g3
        have d1 := H1.out; have d3 := H2.out
        have e : ∀ k, a ≤ k → k < m → kth (x ++ (s ++ (q :: y))) k = kth s (k - a) := by
          intro k f1 f2
          rw [kth_app, if_neg (by omega), kth_app, if_pos (by omega)]
          congr 1; omega
        rw [e k1 g1 (by omega), e k2 (by omega) g3]
        exact kth_mono HT.out (by omega) (by omega)
      by_cases hlt : q.w < u.w
      · have e2 : decide (q.w - u.w < 0) = true := by simp; omega
        go_wp2_with fail
        refine ⟨⟨i, h, rfl, rfl, by omega, by omega, by omega, Lib.hid (HTN.out.down hih hhj (fun k g1 g2 g3 => ?_) ?_), HB3, HK1⟩, by simp [intOf]; omega⟩
        · exact Int.le_trans (hmono.out h k (by omega) g1 g2) g3
        · show ¬ (kth _ h).w ≤ q.w; rw [← HU.out]; omega
      · have e2 : decide (q.w - u.w < 0) = false := by simp; omega
        go_wp2_with fail
        refine ⟨⟨h + 1, j, by go_num, rfl, by omega, by omega, by omega, Lib.hid (HTN.out.up hih hhj (fun k g1 g2 g3 => ?_) ?_), HB3, HK1⟩, by simp [intOf]; omega⟩
        · exact Int.le_trans (hmono.out k h g1 g2 (by omega)) g3
        · show (kth _ h).w ≤ q.w; rw [← HU.out]; omega
    · have e0 : decide (i < j) = false := by simpa using hlt
      obtain rfl : i = j := by omega
      have HB0 : Hid (PB wo g (x ++ (s.take s.length ++ (q :: (s.drop s.length ++ y)))) R) := by
        have := HB.out; rw [List.take_length, List.drop_length]; exact this
      clear HB
      go_wp2_with fail
      go_loopw [17] (fun kv wr => ∃ (K r : Nat), kv = .int .i64 K ∧ i ≤ K ∧ K ≤ m ∧ Hid (K = a + r) ∧ Hid (PB wr g (x ++ (s.take r ++ (q :: (s.drop r ++ y)))) R) ∧ Hid (Keeps [g] w wr)) (fun kv _ => (intOf kv).toNat)
      case atStart => exact ⟨m, s.length, rfl, hjb, by omega, Lib.hid (by have := H1.out; have := H2.out; omega), HB0, HK⟩
      case round =>
        clear HB0 HK
        obtain ⟨K, r, rfl, hKi, hKm, HKq, HB, HK⟩ := hrel
        by_cases hlt2 : i < K
        · obtain ⟨D, rfl⟩ : ∃ D, K = D + 1 := ⟨K - 1, by omega⟩
          obtain ⟨r', rfl⟩ : ∃ r', r = r' + 1 := ⟨r - 1, by have := HKq.out; omega⟩
          have e4 : decide ((i : Int) < (D : Int) + 1) = true := by simp; omega
          have hq : r' < s.length := by have := HKq.out; have := H1.out; have := H2.out; omega
          have HKA : Hid (D = (x ++ s.take r').length) := by have := HKq.out; have := H1.out; show _ = _; rw [List.length_append, List.length_take]; omega
          have HB2 : Hid (PB wr g ((x ++ s.take r') ++ s[r'] :: q :: (s.drop (r' + 1) ++ y)) R) := by
            have := HB.out; rw [List.take_succ_eq_append_getElem hq] at this; simp only [List.append_assoc, List.cons_append, List.nil_append] at *; exact this
          have HE : Hid (s.drop r' = s[r'] :: s.drop (r' + 1)) := List.drop_eq_getElem_cons hq
          have HLN : Hid (D + 1 < ((x ++ s.take r') ++ s[r'] :: q :: (s.drop (r' + 1) ++ y)).length) := by rw [HKA.out]; show _ < _; simp only [List.length_append, List.length_cons]; omega
          generalize s[r'] = e at *
          obtain ⟨p1, p2⟩ := HB2.out.cell (j := D) (by have := HLN.out; omega)
          obtain ⟨q1, q2⟩ := HB2.out.cell (j := D + 1) HLN.out
          have k1 : kth ((x ++ s.take r') ++ e :: q :: (s.drop (r' + 1) ++ y)) D = e := by rw [HKA.out, kth_app, if_neg (by omega), Nat.sub_self]; rfl
          have k2 : kth ((x ++ s.take r') ++ e :: q :: (s.drop (r' + 1) ++ y)) (D + 1) = q := by rw [HKA.out, kth_app, if_neg (by omega), show (x ++ s.take r').length + 1 - (x ++ s.take r').length = 1 by omega]; rfl
          rw [k1] at p1 p2
          rw [k2] at q1 q2
          have K1 := Lib.hid k1
          have K2 := Lib.hid k2
          have f1 := HB2.out.free (D * 2)
          have f2 := HB2.out.free (D * 2 + 1)
          have f3 := HB2.out.free ((D + 1) * 2)
          have f4 := HB2.out.free ((D + 1) * 2 + 1)
          have s1 : ((D : Int) + 1).toNat = D + 1 := by omega
          have s2 : (0 : Int) ≤ (D : Int) + 1 := by omega
          have s3 : (D : Int) + 1 < (n : Int) := by omega
          have s4 : (D : Int) < (n : Int) := by omega
          have s5 : IntKind.i64.wrap (D : Int) = D := IntWalk.i64_in _ (by omega)
          clear k1 k2 HB hq
          go_wp2_with fail
          go_region
          go_wp2_with fail
          go_roundw
          case rel =>
            refine ⟨D, r', by go_num, by omega, by omega, Lib.hid (by have := HKq.out; omega), Lib.hid ?_, Lib.hid ((((((HK.out.put _).put _).put _).put _)).drew)⟩
            have hs := set_two _ (D + 1) D HLN.out (by have := HLN.out; omega) wr g R HB2.out (by omega)
            rw [K1.out, K2.out] at hs
            have hz := swp_adj' (x ++ s.take r') (s.drop (r' + 1) ++ y) e q
            rw [← HKA.out] at hz
            rw [hz] at hs
            have := hs.dr (Dr.refl _).drew
            rw [HE.out]
            simp only [List.append_assoc, List.cons_append, List.nil_append] at this ⊢
            exact this
          case measure => simp [intOf]
        · have e4 : decide (i < K) = false := by simpa using hlt2
          go_wp2_with fail
          refine bodyPost_ret (results_none rfl _ _ _) rfl ?_
          refine ⟨rfl, s.take r ++ q :: s.drop r, ?_, ?_, HK.out⟩
          · have hs := ss_insert (e := q) (t1 := s.take r) (t2 := s.drop r) (l := s) (by rw [List.take_append_drop]; exact ⟨HT.out, same.refl _⟩) ?_ ?_
            · exact hs
            · intro z hz
              obtain ⟨d, hd, rfl⟩ := mem_kth hz
              rw [List.length_take] at hd
              have := HTN.out.yes (a + d) (by omega) (by have := HKq.out; omega)
              have d2 := H1.out
              rw [kth_app, if_neg (by omega), kth_app, if_pos (by omega)] at this
              rw [kth_take (by omega)]
              rw [show a + d - x.length = d by omega] at this
              omega
            · intro z hz
              obtain ⟨d, hd, rfl⟩ := mem_kth hz
              rw [List.length_drop] at hd
              have d2 := H1.out
              have d3 := H2.out
              have := HTN.out.no (a + (r + d)) (by have := HKq.out; omega) (by omega)
              rw [kth_app, if_neg (by omega), kth_app, if_pos (by omega)] at this
              rw [kth_drop]
              rw [show a + (r + d) - x.length = r + d by omega] at this
              omega
          · have := HB.out
            simp only [List.append_assoc, List.cons_append] at this ⊢
            exact this
end Go.Proofs.Ytcblibefmclloaa
