import Derived.Test.YtcblibefmclloaaMRot
set_option linter.unusedVariables false
set_option linter.unusedSimpArgs false
namespace Go.Proofs.Ytcblibefmclloaa
open Go.RowKit
theorem swapRange_parts (w : World) (g : Nat) (x u z v y : List Pk) (R : List Value) (m c a b n : Nat) (ai bi ni : Int) (fv : Value) (h : PB w g (x ++ (u ++ (z ++ (v ++ y)))) R) (hm : m = (x ++ (u ++ (z ++ (v ++ y)))).length)
    (h1 : a = x.length) (h2 : b = x.length + u.length + z.length) (h3 : n = u.length) (h4 : n = v.length) (ea : ai = a) (eb : bi = b) (en : ni = n) (hsz : m ≤ 1000000) :
    Calls Try.prog 49 #[.slice (some ⟨g, 0, none⟩) m c, .int .i64 ai, .int .i64 bi, .int .i64 ni, fv] w fun e w' => e = .returned (.tuple #[]) ∧ PB w' g (x ++ (v ++ (z ++ (u ++ y)))) R ∧ Keeps [g] w w' := by
  subst ea eb en
  have hl : m = x.length + (u.length + (z.length + (v.length + y.length))) := by rw [hm]; simp only [List.length_append]
  have := swapRange_calls w g _ R m c a b n fv h hm (by omega) (by omega) hsz
  rw [h1, h2, h3, swpN_parts x u z v y (by omega)] at this
  rw [h1, h2, h3]; exact this
set_option maxRecDepth 100000 in
set_option maxHeartbeats 1000000 in
theorem rotate_calls (w : World) (g : Nat) (x u v y : List Pk) (R : List Value) (n c a m b : Nat) (fv : Value) (h : PB w g (x ++ (u ++ (v ++ y))) R) (hn : n = (x ++ (u ++ (v ++ y))).length)
    (h1 : a = x.length) (h2 : m = x.length + u.length) (h3 : b = x.length + u.length + v.length) (hu : 0 < u.length) (hv : 0 < v.length) (hsz : n ≤ 1000000) :
    Calls Try.prog 48 #[.slice (some ⟨g, 0, none⟩) n c, .int .i64 a, .int .i64 m, .int .i64 b, fv] w fun e w' => e = .returned (.tuple #[]) ∧ PB w' g (x ++ (v ++ (u ++ y))) R ∧ Keeps [g] w w' := by
  have H := Lib.hid h
  have hl : n = x.length + (u.length + (v.length + y.length)) := by rw [hn]; simp only [List.length_append]
  have HL := Lib.hid hl
  have H1 := Lib.hid h1
  have H2 := Lib.hid h2
  have H3 := Lib.hid h3
  have b1 : a ≤ m := by omega
  have b2 : m ≤ b := by omega
  have b3 : b ≤ n := by omega
  have e1 : IntKind.i64.wrap ((m : Int) - a) = (m : Int) - a := IntWalk.i64_in _ (by omega)
  have e2 : IntKind.i64.wrap ((b : Int) - m) = (b : Int) - m := IntWalk.i64_in _ (by omega)
  clear h hl h1 h2 h3 hn
  go_enter Try.func48, Try.ntmps48
  go_wp2_with fail
  go_loopw [10, 11] (fun iv jv wr => ∃ (i j : Nat) (P U V S : List Pk), 0 < i ∧ 0 < j ∧ i ≤ m ∧ j ≤ n ∧ m + j ≤ n ∧ iv = .int .i64 i ∧ jv = .int .i64 j ∧ Hid (U.length = i) ∧ Hid (V.length = j) ∧ Hid (P.length + i = m) ∧ Hid (P.length + (i + (j + S.length)) = n) ∧ Hid (P ++ (V ++ (U ++ S)) = x ++ (v ++ (u ++ y))) ∧ Hid (PB wr g (P ++ (U ++ (V ++ S))) R) ∧ Hid (Keeps [g] w wr)) (fun iv jv _ => (intOf iv + intOf jv).toNat)
  case atStart =>
    have q1 := H1.out; have q2 := H2.out; have q3 := H3.out; have q4 := HL.out
    exact ⟨m - a, b - m, x, u, v, y, by omega, by omega, by omega, by omega, by omega, by congr 1; omega, by congr 1; omega, Lib.hid (by omega), Lib.hid (by omega), Lib.hid (by omega), Lib.hid (by omega), Lib.hid rfl, H, Lib.hid (Keeps.refl _ _)⟩
  case round =>
    obtain ⟨i, j, P, U, V, S, hi, hj, him, hjn, hmj, rfl, rfl, HU, HV, HP, HN, HT, HB, HK⟩ := hrel
    clear e1 e2 b1 b2 b3 H
    by_cases hne : i = j
    · subst hne
      have e3 : ((i : Int) != (i : Int)) = false := by simp
      have e4 : IntKind.i64.wrap ((m : Int) - i) = (m : Int) - i := IntWalk.i64_in _ (by omega)
      go_wp2_with fail
      have HB2 : Hid (PB wr g (P ++ (U ++ ([] ++ (V ++ S)))) R) := HB
      refine (swapRange_parts _ _ P U [] V S R _ _ (m - i) m i _ _ _ _ HB2.out (by have := HN.out; have := HU.out; have := HV.out; simp only [List.length_append, List.length_nil]; omega) (by have := HP.out; omega) (by have := HP.out; have := HU.out; simp only [List.length_nil]; omega) (by have := HU.out; omega) (by have := HV.out; omega) (by omega) rfl rfl hsz).mono ?_
      rintro e w' ⟨rfl, hb, hk⟩
      have HB3 := Lib.hid hb
      have HK3 := Lib.hid (HK.out.trans hk)
      clear hb hk
      go_wp2_with fail
      go_end0
      refine ⟨rfl, ?_, HK3.out⟩
      rw [← HT.out]; exact HB3.out
    · have e3 : ((i : Int) != (j : Int)) = true := by simp; omega
      by_cases hgt : j < i
      · have e4 : IntKind.i64.wrap ((m : Int) - i) = (m : Int) - i := IntWalk.i64_in _ (by omega)
        have e5 : IntKind.i64.wrap ((i : Int) - j) = (i : Int) - j := IntWalk.i64_in _ (by omega)
        have HB2 : Hid (PB wr g (P ++ (U.take j ++ (U.drop j ++ (V ++ S)))) R) := by
          have := HB.out; rw [← List.take_append_drop j U, List.append_assoc] at this; exact this
        have l1 : Hid ((U.take j).length = j) := by have := HU.out; show _ = _; rw [List.length_take]; omega
        have l2 : Hid ((U.drop j).length = i - j) := by have := HU.out; show _ = _; rw [List.length_drop]; omega
        have HT2 : Hid (P ++ (V ++ (U.take j ++ (U.drop j ++ S))) = x ++ (v ++ (u ++ y))) := by
          have := HT.out; rw [← List.take_append_drop j U, List.append_assoc] at this; exact this
        generalize U.take j = U1 at *
        generalize U.drop j = U2 at *
        clear hne HB HT
        go_wp2_with fail
        refine (swapRange_parts _ _ P U1 U2 V S R _ _ (m - i) m j _ _ _ _ HB2.out (by have := HN.out; have := l1.out; have := l2.out; have := HV.out; simp only [List.length_append]; omega) (by have := HP.out; omega) (by have := HP.out; have := l1.out; have := l2.out; omega) (by have := l1.out; omega) (by have := HV.out; omega) (by omega) rfl rfl hsz).mono ?_
        rintro e w' ⟨rfl, hb, hk⟩
        have HB3 := Lib.hid hb
        have HK3 := Lib.hid (HK.out.trans hk)
        clear hb hk
        go_wp2_with fail
        go_roundw
        case rel => exact ⟨i - j, j, P ++ V, U2, U1, S, by omega, by omega, by omega, by omega, by omega, by congr 1; omega, rfl, l2, l1, Lib.hid (by have := HP.out; have := HV.out; rw [List.length_append]; omega), Lib.hid (by have := HN.out; have := HV.out; rw [List.length_append]; omega), Lib.hid (by rw [List.append_assoc]; exact HT2.out), Lib.hid (by rw [List.append_assoc]; exact HB3.out), HK3⟩
        case measure => simp [intOf]; omega
      · have hij : i < j := by omega
        have e4 : IntKind.i64.wrap ((m : Int) - i) = (m : Int) - i := IntWalk.i64_in _ (by omega)
        have e5 : IntKind.i64.wrap ((j : Int) - i) = (j : Int) - i := IntWalk.i64_in _ (by omega)
        have e6 : IntKind.i64.wrap ((m : Int) + j) = (m : Int) + j := IntWalk.i64_in _ (by omega)
        have e7 : IntKind.i64.wrap ((m : Int) + j - i) = (m : Int) + j - i := IntWalk.i64_in _ (by omega)
        have HB2 : Hid (PB wr g (P ++ (U ++ (V.take (j - i) ++ (V.drop (j - i) ++ S)))) R) := by
          have := HB.out; rw [← List.take_append_drop (j - i) V, List.append_assoc] at this; exact this
        have l1 : Hid ((V.take (j - i)).length = j - i) := by have := HV.out; show _ = _; rw [List.length_take]; omega
        have l2 : Hid ((V.drop (j - i)).length = i) := by have := HV.out; show _ = _; rw [List.length_drop]; omega
        have HT2 : Hid (P ++ (V.take (j - i) ++ (V.drop (j - i) ++ (U ++ S))) = x ++ (v ++ (u ++ y))) := by
          have := HT.out; rw [← List.take_append_drop (j - i) V, List.append_assoc] at this; exact this
        generalize V.take (j - i) = V1 at *
        generalize V.drop (j - i) = V2 at *
        clear hne HB HT
        go_wp2_with fail
        refine (swapRange_parts _ _ P U V1 V2 S R _ _ (m - i) (m + j - i) i _ _ _ _ HB2.out (by have := HN.out; have := l1.out; have := l2.out; have := HU.out; simp only [List.length_append]; omega) (by have := HP.out; omega) (by have := HP.out; have := l1.out; have := HU.out; omega) (by have := HU.out; omega) (by have := l2.out; omega) (by omega) (by omega) rfl hsz).mono ?_
        rintro e w' ⟨rfl, hb, hk⟩
        have HB3 := Lib.hid hb
        have HK3 := Lib.hid (HK.out.trans hk)
        clear hb hk
        go_wp2_with fail
        go_roundw
        case rel => exact ⟨i, j - i, P, V2, V1, U ++ S, by omega, by omega, by omega, by omega, by omega, rfl, by congr 1; omega, l2, l1, HP, Lib.hid (by have := HN.out; have := HU.out; rw [List.length_append]; omega), HT2, HB3, HK3⟩
        case measure => simp [intOf]; omega
end Go.Proofs.Ytcblibefmclloaa
