import Derived.Test.YtcblibefmclloaaMStable
set_option linter.unusedVariables false
set_option linter.unusedSimpArgs false
namespace Go.Proofs.Ytcblibefmclloaa
open Go.RowKit
/-- All weights are small. -/
def okW (L : List Pk) : Prop := ∀ j, j < L.length → 0 ≤ (kth L j).w ∧ (kth L j).w ≤ 100000000000000000
theorem okW_mem {L : List Pk} : okW L ↔ ∀ p ∈ L, 0 ≤ p.w ∧ p.w ≤ 100000000000000000 := by
  constructor
  · intro h p hp
    obtain ⟨j, hj, rfl⟩ := List.mem_iff_getElem.1 hp
    have := h j hj
    rwa [kth_lt hj] at this
  · intro h j hj
    rw [kth_lt hj]
    exact h _ (List.getElem_mem hj)
theorem okW_perm {a b : List Pk} (h : a.Perm b) (k : okW b) : okW a := okW_mem.2 fun p hp => okW_mem.1 k p (h.mem_iff.1 hp)
abbrev theCmp : Value := .func (.func 33) #[] #[]
theorem in_e {x s y : List Pk} {k : Nat} {e : Pk} (h : s.take (k + 1) = s.take k ++ [e]) : e ∈ x ++ (s ++ y) := by
  have : e ∈ s.take (k + 1) := by rw [h]; simp
  exact List.mem_append_right _ (List.mem_append_left _ (List.mem_of_mem_take this))
theorem in_p {x s y t A t2 : List Pk} {k : Nat} {p : Pk} (h : SS t (s.take k)) (ht : t = A ++ [p] ++ t2) : p ∈ x ++ (s ++ y) := by
  have : p ∈ t := by rw [ht]; simp
  exact List.mem_append_right _ (List.mem_append_left _ (List.mem_of_mem_take (h.mem.1 this)))
set_option maxRecDepth 100000 in
set_option maxHeartbeats 1000000 in
theorem insSort_calls (w : World) (g : Nat) (x s y : List Pk) (R : List Value) (n c a b : Nat) (h : PB w g (x ++ (s ++ y)) R) (hn : n = (x ++ (s ++ y)).length) (hw : okW (x ++ (s ++ y)))
    (h1 : a = x.length) (h2 : b = x.length + s.length) (hsz : n ≤ 1000000) :
    Calls Try.prog 46 #[.slice (some ⟨g, 0, none⟩) n c, .int .i64 a, .int .i64 b, theCmp] w fun e w' => e = .returned (.tuple #[]) ∧ ∃ r, SS r s ∧ PB w' g (x ++ (r ++ y)) R ∧ Keeps [g] w w' := by
  have H := Lib.hid h
  have hl : n = x.length + (s.length + y.length) := by rw [hn]; simp only [List.length_append]
  have HL := Lib.hid hl
  have H1 := Lib.hid h1
  have H2 := Lib.hid h2
  have HW := Lib.hid hw
  have b2 : a ≤ b := by omega
  have b3 : b ≤ n := by omega
  clear h hl h1 h2 hn hw
  go_enter Try.func46, Try.ntmps46
  go_wp2_with fail
  go_loopw [8] (fun iv wr => ∃ (I k : Nat) (t r : List Pk), 1 ≤ k ∧ I ≤ n + 1 ∧ iv = .int .i64 I ∧ Hid (I = a + k) ∧ Hid (r = s.drop k) ∧ Hid (SS t (s.take k)) ∧ Hid (PB wr g (x ++ (t ++ (r ++ y))) R) ∧ Hid (Keeps [g] w wr)) (fun iv _ => (b - intOf iv).toNat)
  case atStart =>
    refine ⟨a + 1, 1, s.take 1, s.drop 1, by omega, by omega, by go_num, Lib.hid rfl, Lib.hid rfl, Lib.hid ⟨?_, same.refl _⟩, Lib.hid ?_, Lib.hid (Keeps.refl _ _)⟩
    · match s with
      | [] => exact srt_nil
      | p :: s => exact srt_one p
    · have := H.out
      rw [← List.take_append_drop 1 s, List.append_assoc] at this; exact this
  case round =>
    clear H
    obtain ⟨I, k, t, r, hk, hkn, rfl, HI, HR, HS, HB, HK⟩ := hrel
    by_cases hlt : I < b
    · have hks : k < s.length := by have := H1.out; have := H2.out; have := HI.out; omega
      obtain ⟨e, r', hr'⟩ : ∃ e r', s.drop k = e :: r' := ⟨s[k], s.drop (k + 1), (List.drop_eq_getElem_cons hks)⟩
      have htk : Hid (s.take (k + 1) = s.take k ++ [e]) := by
        have := List.drop_eq_getElem_cons hks
        rw [hr'] at this
        injection this with e1 e2
        show _ = _
        rw [List.take_succ_eq_append_getElem hks, e1]
      have hr2 : Hid (r' = s.drop (k + 1)) := by
        have := List.drop_eq_getElem_cons hks
        rw [hr'] at this
        injection this with e1 e2
      have HB1 : Hid (PB wr g (x ++ (t ++ ([] ++ (e :: ([] ++ (r' ++ y)))))) R) := by
        have := HB.out; rw [HR.out, hr'] at this; exact this
      have ht : Hid (t.length = k) := by have := HS.out.len; rw [List.length_take] at this; show _ = _; omega
      clear HB HR hr' hks
      obtain ⟨wo, rfl⟩ : ∃ wo : World, wo = wr := ⟨_, rfl⟩
      have e0 : decide (I < b) = true := by simpa using hlt
      go_wp2_with fail
      have hkn2 : I < n := by omega
      have haI : a ≤ I := by have := HI.out; omega
      go_loopw [9] (fun jv wr => ∃ (J m : Nat) (t1 t2 : List Pk), a ≤ J ∧ J < n ∧ jv = .int .i64 J ∧ Hid (J = a + m) ∧ Hid (t1.length = m) ∧ Hid (t = t1 ++ t2) ∧ Hid (∀ p ∈ t2, e.w < p.w) ∧ Hid (PB wr g (x ++ (t1 ++ (e :: (t2 ++ (r' ++ y))))) R) ∧ Hid (Keeps [g] w wr)) (fun jv _ => (intOf jv).toNat)
      case atStart => exact ⟨I, k, t, [], haI, hkn2, rfl, HI, ht, Lib.hid (by simp), Lib.hid (by simp), HB1, HK⟩
      case round =>
        clear HB1 HK ht
        obtain ⟨J, m, t1, t2, hJ1, hJ2, rfl, HJ, HM, HT, HG, HB, HK⟩ := hrel
        by_cases hJ : a < J
        · obtain ⟨i, rfl⟩ : ∃ i, J = i + 1 := ⟨J - 1, by omega⟩
          obtain ⟨A, p, rfl⟩ : ∃ A p, t1 = A ++ [p] := by
            have := HM.out; have := HJ.out
            exact ⟨t1.dropLast, t1.getLast (by rintro rfl; simp at *; omega), (List.dropLast_concat_getLast _).symm⟩
          have hA : Hid (i = (x ++ A).length) := by
            have := HM.out; have := HJ.out; have := H1.out; show _ = _; rw [List.length_append] at *; simp at *; omega
          have HB2 : Hid (PB wr g ((x ++ A) ++ p :: e :: (t2 ++ (r' ++ y))) R) := by
            have := HB.out; simp only [List.append_assoc, List.singleton_append, List.cons_append] at *; exact this
          have k1 : kth ((x ++ A) ++ p :: e :: (t2 ++ (r' ++ y))) i = p := by rw [hA.out, kth_app, if_neg (by omega), Nat.sub_self]; rfl
          have k2 : kth ((x ++ A) ++ p :: e :: (t2 ++ (r' ++ y))) (i + 1) = e := by rw [hA.out, kth_app, if_neg (by omega), show (x ++ A).length + 1 - (x ++ A).length = 1 by omega]; rfl
          have hlen : i + 1 < ((x ++ A) ++ p :: e :: (t2 ++ (r' ++ y))).length := by rw [hA.out]; simp only [List.length_append, List.length_cons]; omega
          obtain ⟨p1, p2⟩ := HB2.out.cell (j := i) (by omega)
          obtain ⟨q1, q2⟩ := HB2.out.cell (j := i + 1) (by omega)
          rw [k1] at p1 p2
          rw [k2] at q1 q2
          have HLN := Lib.hid hlen
          clear k1 k2 hlen
          have e1 : decide ((a : Int) < (i : Int) + 1) = true := by simp; omega
          have s1 : ((i : Int) + 1).toNat = i + 1 := by omega
          have s2 : (0 : Int) ≤ (i : Int) + 1 := by omega
          have s3 : (i : Int) + 1 < (n : Int) := by omega
          have s4 : (i : Int) < (n : Int) := by omega
          have s5 : IntKind.i64.wrap (i : Int) = i := IntWalk.i64_in _ (by omega)
          go_wp2_with fail
          go_still_tail 14, (by kernel_rfl)
          change wpList _ _ _ _ _ wr.drew
          obtain ⟨we, we1⟩ : 0 ≤ e.w ∧ e.w ≤ 100000000000000000 := okW_mem.1 HW.out e (in_e htk.out)
          obtain ⟨wp, wp1⟩ : 0 ≤ p.w ∧ p.w ≤ 100000000000000000 := okW_mem.1 HW.out p (in_p HS.out HT.out)
          go_wp2_with fail
          refine (lighter_calls _ _ _ _ _ _ _ _ _ we we1 wp wp1).mono ?_
          rintro _ w1 ⟨rfl, hk⟩
          have HK1 := Lib.hid (HK.out.trans ((Keeps.refl [g] wr).drew.trans (hk.mono (by simp))))
          have HB3 := Lib.hid (HB2.out.keeps ((Keeps.refl [] wr).drew.trans hk) (by simp))
          clear hk HB HB2 p1 p2 q1 q2 HK
          by_cases hlt : e.w < p.w
          · have e2 : decide (e.w - p.w < 0) = true := by simp; omega
            obtain ⟨p1, p2⟩ := HB3.out.cell (j := i) (by have := HLN.out; omega)
            obtain ⟨q1, q2⟩ := HB3.out.cell (j := i + 1) HLN.out
            have k1 : kth ((x ++ A) ++ p :: e :: (t2 ++ (r' ++ y))) i = p := by rw [hA.out, kth_app, if_neg (by omega), Nat.sub_self]; rfl
            have k2 : kth ((x ++ A) ++ p :: e :: (t2 ++ (r' ++ y))) (i + 1) = e := by rw [hA.out, kth_app, if_neg (by omega), show (x ++ A).length + 1 - (x ++ A).length = 1 by omega]; rfl
            rw [k1] at p1 p2
            rw [k2] at q1 q2
            have K1 := Lib.hid k1
            have K2 := Lib.hid k2
            clear k1 k2
            have f1 := HB3.out.free (i * 2)
            have f2 := HB3.out.free (i * 2 + 1)
            have f3 := HB3.out.free ((i + 1) * 2)
            have f4 := HB3.out.free ((i + 1) * 2 + 1)
            go_wp2_with fail
            go_region
            go_wp2_with fail
            go_roundw
            case rel =>
              refine ⟨i, A.length, A, p :: t2, by omega, by omega, by go_num, Lib.hid ?_, Lib.hid rfl, Lib.hid ?_, Lib.hid ?_, Lib.hid ?_, Lib.hid ((((((HK1.out.put _).put _).put _).put _)).drew)⟩
              · have := hA.out; have := H1.out; rw [List.length_append] at *; omega
              · rw [HT.out]; simp
              · intro q hq
                rcases List.mem_cons.1 hq with rfl | hq
                · exact hlt
                · exact HG.out q hq
              · have hs := set_two _ (i + 1) i HLN.out (by have := HLN.out; omega) w1 g R HB3.out (by omega)
                rw [K1.out, K2.out] at hs
                have hz := swp_adj' (x ++ A) (t2 ++ (r' ++ y)) p e
                rw [← hA.out] at hz
                rw [hz] at hs
                have := hs.dr (Dr.refl _).drew
                simp only [List.append_assoc, List.cons_append] at this ⊢
                exact this
            case measure => simp [intOf]
          · have e2 : decide (e.w - p.w < 0) = false := by simp; omega
            go_wp2_with fail
            refine ⟨⟨I + 1, k + 1, A ++ p :: e :: t2, r', by omega, by omega, by go_num, Lib.hid (by have := HI.out; omega), hr2, Lib.hid ?_, Lib.hid ?_, HK1⟩, by simp [intOf]; omega⟩
            · rw [htk.out, show A ++ p :: e :: t2 = (A ++ [p]) ++ e :: t2 by simp]
              have hs := HS.out
              rw [HT.out] at hs
              refine ss_insert hs (fun q hq => ?_) HG.out
              rcases List.mem_append.1 hq with hq | hq
              · have := srt_le (srt_left hs.1) q hq p (by simp); omega
              · rw [List.mem_singleton.1 hq]; omega
            · have := HB3.out
              simp only [List.append_assoc, List.cons_append] at this ⊢
              exact this
        · have e1 : decide (a < J) = false := by simpa using hJ
          go_wp2_with fail
          go_quiet (fail)
          go_wp2_with fail
          have h0 : t1 = [] := by have := HM.out; have := HJ.out; exact List.eq_nil_of_length_eq_zero (by omega)
          subst h0
          refine ⟨⟨I + 1, k + 1, e :: t2, r', by omega, by omega, by go_num, Lib.hid (by have := HI.out; omega), hr2, Lib.hid ?_, Lib.hid ?_, Lib.hid (HK.out.drewN _)⟩, by simp [intOf]; omega⟩
          · rw [htk.out]
            have hs := HS.out
            rw [HT.out] at hs
            exact ss_insert (t1 := []) hs (by simp) HG.out
          · exact HB.out.dr ⟨_, rfl⟩
    · go_wp2_with fail
      go_end0
      have hs : s.length ≤ k := by have := H1.out; have := H2.out; have := HI.out; omega
      have e1 : r = [] := by rw [HR.out, List.drop_eq_nil_of_le hs]
      subst e1
      refine ⟨rfl, t, ?_, HB.out, HK.out⟩
      have := HS.out
      rwa [List.take_of_length_le hs] at this
end Go.Proofs.Ytcblibefmclloaa
