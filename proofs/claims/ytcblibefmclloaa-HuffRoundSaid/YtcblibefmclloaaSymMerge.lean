import Derived.Test.YtcblibefmclloaaMSym
import Derived.Test.YtcblibefmclloaaRotate
set_option linter.unusedVariables false
set_option linter.unusedSimpArgs false
namespace Go.Proofs.Ytcblibefmclloaa
open Go.RowKit
theorem sym_perm0 (x S1 S2 T1 T2 y : List Pk) : (x ++ (S1 ++ (T1 ++ (S2 ++ (T2 ++ y))))).Perm (x ++ ((S1 ++ S2) ++ ((T1 ++ T2) ++ y))) := by
  refine List.Perm.append_left x ?_
  rw [List.append_assoc]
  refine List.Perm.append_left S1 ?_
  rw [List.append_assoc, ← List.append_assoc T1, ← List.append_assoc S2]
  exact List.Perm.append_right _ List.perm_append_comm
theorem sym_perm {x S1 T1 z r1 : List Pk} (h : r1.Perm (S1 ++ T1)) : ((x ++ r1) ++ z).Perm (x ++ (S1 ++ (T1 ++ z))) := by
  rw [List.append_assoc, ← List.append_assoc S1]
  exact List.Perm.append_left x (List.Perm.append_right z h)
/-- What merging is to do, of so many packs at most. -/
def SymC (N : Nat) : Prop := ∀ (w : World) (g : Nat) (x s t y : List Pk) (R : List Value) (n c a m b : Nat), PB w g (x ++ (s ++ (t ++ y))) R → n = (x ++ (s ++ (t ++ y))).length → okW (x ++ (s ++ (t ++ y))) →
    a = x.length → m = x.length + s.length → b = x.length + s.length + t.length → srt s → srt t → 0 < s.length → 0 < t.length → s.length + t.length ≤ N → n ≤ 1000000 →
    Calls Try.prog 47 #[.slice (some ⟨g, 0, none⟩) n c, .int .i64 a, .int .i64 m, .int .i64 b, theCmp] w fun e w' => e = .returned (.tuple #[]) ∧ ∃ r, SS r (s ++ t) ∧ PB w' g (x ++ (r ++ y)) R ∧ Keeps [g] w w'
set_option maxRecDepth 100000 in
set_option maxHeartbeats 4000000 in
theorem symGen_calls (N : Nat) (ih : SymC N) (w : World) (g : Nat) (x s t y : List Pk) (R : List Value) (n c a m b : Nat) (h : PB w g (x ++ (s ++ (t ++ y))) R) (hn : n = (x ++ (s ++ (t ++ y))).length) (hw : okW (x ++ (s ++ (t ++ y))))
    (h1 : a = x.length) (h2 : m = x.length + s.length) (h3 : b = x.length + s.length + t.length) (hs : srt s) (ht : srt t) (ls : 2 ≤ s.length) (lt : 2 ≤ t.length) (hN : s.length + t.length ≤ N + 1) (hsz : n ≤ 1000000) :
    Calls Try.prog 47 #[.slice (some ⟨g, 0, none⟩) n c, .int .i64 a, .int .i64 m, .int .i64 b, theCmp] w fun e w' => e = .returned (.tuple #[]) ∧ ∃ r, SS r (s ++ t) ∧ PB w' g (x ++ (r ++ y)) R ∧ Keeps [g] w w' := by
  have H := Lib.hid h
  have hl : n = x.length + (s.length + (t.length + y.length)) := by rw [hn]; simp only [List.length_append]
  have HL := Lib.hid hl
  have HLN := Lib.hid hn
  have H1 := Lib.hid h1
  have H2 := Lib.hid h2
  have H3 := Lib.hid h3
  have HW := Lib.hid hw
  have HS := Lib.hid hs
  have HT := Lib.hid ht
  have IH := Lib.hid ih
  have HN := Lib.hid hN
  have b1 : a + 2 ≤ m := by omega
  have b2 : m + 2 ≤ b := by omega
  have b3 : b ≤ n := by omega
  have e1 : IntKind.i64.wrap ((m : Int) - a) = (m : Int) - a := IntWalk.i64_in _ (by omega)
  have e2 : ((m : Int) - a == 1) = false := by simp; omega
  have e3 : IntKind.i64.wrap ((b : Int) - m) = (b : Int) - m := IntWalk.i64_in _ (by omega)
  have e4 : ((b : Int) - m == 1) = false := by simp; omega
  obtain ⟨M, hM⟩ : ∃ M : Nat, M = (a + b) / 2 := ⟨_, rfl⟩
  have s0 : ((a : Int) + b) / 2 = (M : Int) := by omega
  have m1 : a < M := by omega
  have m2 : M < b := by omega
  have HM := Lib.hid hM
  have hcase : ∃ st0 r0 : Nat, symC a m b M st0 r0 := by
    by_cases hmm : M < m
    · exact ⟨M + m - b, M, Or.inl ⟨hmm, by omega, rfl⟩⟩
    · exact ⟨a, m, Or.inr ⟨by omega, rfl, rfl⟩⟩
  obtain ⟨st0, r0, hC⟩ := hcase
  obtain ⟨c1, c2, c3, c4, c5, c6⟩ := symC_bd hC hM (by omega) (by omega)
  have HC := Lib.hid hC
  have C6 := Lib.hid c6
  clear h hl h1 h2 h3 hn hw hs ht ih hN hM hC c6
  have key : ∀ wq : World, Hid (PB wq g (x ++ (s ++ (t ++ y))) R) → True := fun _ _ => trivial
  clear key
  rcases (by have := HC.out; unfold symC at this; omega : (M < m ∧ st0 + b = M + m ∧ r0 = M) ∨ (m ≤ M ∧ st0 = a ∧ r0 = m)) with ⟨hmm, q1, q2⟩ | ⟨hmm, q1, q2⟩
  case' inl =>
    have e5 : decide (M < m) = true := by simpa using hmm
    have q3 : Hid ((M : Int) + m - b = (st0 : Int)) := Lib.hid (by omega)
    have q4 : Hid ((M : Int) = (r0 : Int)) := Lib.hid (by omega)
  case' inr =>
    have e5 : decide (M < m) = false := by simp; omega
    have q3 : Hid ((a : Int) = (st0 : Int)) := Lib.hid (by omega)
    have q4 : Hid ((m : Int) = (r0 : Int)) := Lib.hid (by omega)
  all_goals
    clear q1 q2
    go_enter Try.func47, Try.ntmps47
    go_wp2_with fail
    go_loopw [20, 21] (fun iv jv wr => ∃ (i j : Nat), iv = .int .i64 i ∧ jv = .int .i64 j ∧ i ≤ j ∧ j ≤ r0 ∧ st0 ≤ i ∧ Hid (Turn (fun c => (kth (x ++ (s ++ (t ++ y))) c).w ≤ (kth (x ++ (s ++ (t ++ y))) (M + m - 1 - c)).w) st0 i j r0) ∧ Hid (PB wr g (x ++ (s ++ (t ++ y))) R) ∧ Hid (Keeps [g] w wr)) (fun iv jv _ => (intOf jv - intOf iv).toNat)
    case atStart => exact ⟨st0, r0, by rw [q3.out], by rw [q4.out], c2, by omega, by omega, Lib.hid (Turn.start _ c2), H, Lib.hid (Keeps.refl _ _)⟩
  all_goals
    clear H
    obtain ⟨i, j, rfl, rfl, hij, hjb, hmi, HTN, HB, HK⟩ := hrel
    obtain ⟨wo, rfl⟩ : ∃ wo : World, wo = wr := ⟨_, rfl⟩
    by_cases hlt : i < j
    · have e0 : decide (i < j) = true := by simpa using hlt
      obtain ⟨h, hh⟩ : ∃ h : Nat, h = (i + j) / 2 := ⟨_, rfl⟩
      have s1 : ((i : Int) + j) / 2 = (h : Int) := by omega
      have hih : i ≤ h := by omega
      have hhj : h < j := by omega
      obtain ⟨z1, z2⟩ := C6.out h (by omega) (by omega)
      obtain ⟨Z, hZ⟩ : ∃ Z : Nat, Z = M + m - 1 - h := ⟨_, rfl⟩
      rw [← hZ] at z1 z2
      have s2 : (M : Int) + m - 1 - h = (Z : Int) := by omega
      have s5 : IntKind.i64.wrap (Z : Int) = (Z : Int) := IntWalk.i64_in _ (by omega)
      have s3 : (h : Int) < n := by omega
      have s4 : (Z : Int) < n := by omega
      obtain ⟨p1, p2⟩ := HB.out.cell (j := h) (by have := HLN.out; omega)
      obtain ⟨q1, q2⟩ := HB.out.cell (j := Z) (by have := HLN.out; omega)
      obtain ⟨we, we1⟩ := okW_mem.1 HW.out _ (kth_mem (t := x ++ (s ++ (t ++ y))) (i := h) (by have := HLN.out; omega))
      obtain ⟨wp, wp1⟩ := okW_mem.1 HW.out _ (kth_mem (t := x ++ (s ++ (t ++ y))) (i := Z) (by have := HLN.out; omega))
      obtain ⟨u, hu⟩ : ∃ u, u = kth (x ++ (s ++ (t ++ y))) h := ⟨_, rfl⟩
      obtain ⟨v, hv⟩ : ∃ v, v = kth (x ++ (s ++ (t ++ y))) Z := ⟨_, rfl⟩
      rw [← hu] at p1 p2 we we1
      rw [← hv] at q1 q2 wp wp1
      have HU := Lib.hid hu
      have HV := Lib.hid hv
      have HH := Lib.hid hh
      have HZ := Lib.hid hZ
      clear hu hv hh hZ
      go_wp2_with fail
      go_still_tail 11, (by kernel_rfl)
      change wpList _ _ _ _ _ wo.drew
      go_wp2_with fail
      refine (lighter_calls _ _ _ _ _ _ _ _ _ wp wp1 we we1).mono ?_
      rintro _ w1 ⟨rfl, hk⟩
      have HK1 := Lib.hid (HK.out.trans ((Keeps.refl [g] wo).drew.trans (hk.mono (by simp))))
      have HB3 := Lib.hid (HB.out.keeps ((Keeps.refl [] wo).drew.trans hk) (by simp))
      clear hk HB HK p1 p2 q1 q2 s5 s2
      by_cases hlt : v.w < u.w
      · have e2 : decide (v.w - u.w < 0) = true := by simp; omega
        go_wp2_with fail
        refine ⟨⟨i, h, rfl, rfl, by omega, by omega, by omega, Lib.hid (HTN.out.down hih hhj (fun k g1 g2 g3 => ?_) ?_), HB3, HK1⟩, by simp [intOf]; omega⟩
        · exact sym_mono H1.out H2.out H3.out HS.out HT.out HM.out (by omega) (by omega) HC.out (by omega) g1 g2 g3
        · show ¬ (kth _ h).w ≤ (kth _ (M + m - 1 - h)).w; rw [← HZ.out, ← HU.out, ← HV.out]; omega
      · have e2 : decide (v.w - u.w < 0) = false := by simp; omega
        go_wp2_with fail
        refine ⟨⟨h + 1, j, by go_num, rfl, by omega, by omega, by omega, Lib.hid (HTN.out.up hih hhj (fun k g1 g2 g3 => ?_) ?_), HB3, HK1⟩, by simp [intOf]; omega⟩
        · exact sym_mono H1.out H2.out H3.out HS.out HT.out HM.out (by omega) (by omega) HC.out g1 g2 (by omega) g3
        · show (kth _ h).w ≤ (kth _ (M + m - 1 - h)).w; rw [← HZ.out, ← HU.out, ← HV.out]; omega
    · have e0 : decide (i < j) = false := by simpa using hlt
      obtain rfl : i = j := by omega
      obtain ⟨S1, S2, T1, T2, es, et, l1, l2, F1, F2⟩ := sym_split H1.out H2.out H3.out HS.out HT.out HM.out (by omega) (by omega) HC.out HTN.out
      obtain ⟨E, hE⟩ : ∃ E : Nat, E + i = M + m := ⟨M + m - i, by omega⟩
      have s1 : (M : Int) + m - i = (E : Int) := by omega
      have s2 : IntKind.i64.wrap ((M : Int) + m - i) = (E : Int) := by rw [IntWalk.i64_in _ (by omega)]; exact s1
      have ls' : s.length = S1.length + S2.length := by rw [es, List.length_append]
      have lt' : t.length = T1.length + T2.length := by rw [et, List.length_append]
      have a1 : E = m + T1.length := by omega
      have a2 : a ≤ i := by omega
      have a3 : i ≤ M := by omega
      have a4 : M ≤ E := by omega
      have a5 : E ≤ b := by have := H2.out; have := H3.out; omega
      have a6 : i ≤ m := by omega
      have a7 : m ≤ E := by omega
      have F : Hid (a = x.length ∧ i = x.length + S1.length ∧ m = i + S2.length ∧ M = i + T1.length ∧ E = m + T1.length ∧ b = E + T2.length ∧ n = b + y.length ∧ S1.length + S2.length + (T1.length + T2.length) ≤ N + 1 ∧ 2 ≤ S1.length + S2.length ∧ 2 ≤ T1.length + T2.length) := by
        have := H1.out; have := H2.out; have := H3.out; have := HL.out; have := HN.out
        exact ⟨by omega, by omega, by omega, by omega, by omega, by omega, by omega, by omega, by omega, by omega⟩
      have HF1 := Lib.hid F1
      have HF2 := Lib.hid F2
      have ES := Lib.hid es
      have ET := Lib.hid et
      have HS2 : Hid (srt (S1 ++ S2)) := by have := HS.out; rwa [es] at this
      have HT2 : Hid (srt (T1 ++ T2)) := by have := HT.out; rwa [et] at this
      have HB2 : Hid (PB wo g (x ++ S1 ++ (S2 ++ (T1 ++ (T2 ++ y)))) R) := by
        have := HB.out; rw [es, et] at this; simp only [List.append_assoc] at this ⊢; exact this
      have OK4 : Hid (okW (x ++ (S1 ++ (T1 ++ (S2 ++ (T2 ++ y)))))) := by
        have := HW.out; rw [es, et] at this; exact okW_perm (sym_perm0 x S1 S2 T1 T2 y) this
      clear hE l1 l2 ls' lt' a1 F1 F2 es et HB HTN e1 e2 e3 e4
      rcases Nat.eq_zero_or_pos S1.length with z10 | z10
      · rcases Nat.eq_zero_or_pos S2.length with z20 | z20
        · rcases Nat.eq_zero_or_pos T1.length with z30 | z30
          · rcases Nat.eq_zero_or_pos T2.length with z40 | z40
            · exfalso; have f := F.out; omega
            · exfalso; have f := F.out; omega
          · rcases Nat.eq_zero_or_pos T2.length with z40 | z40
            · exfalso; have f := F.out; omega
            · exfalso; have f := F.out; omega
        · rcases Nat.eq_zero_or_pos T1.length with z30 | z30
          · rcases Nat.eq_zero_or_pos T2.length with z40 | z40
            · exfalso; have f := F.out; omega
            · exfalso; have f := F.out; omega
          · rcases Nat.eq_zero_or_pos T2.length with z40 | z40
            · have z1 := List.eq_nil_of_length_eq_zero z10
              have z4 := List.eq_nil_of_length_eq_zero z40
              have d0 : decide (i < m) = true := by have f := F.out; simp; omega
              have d1 : decide (m < E) = true := by have f := F.out; simp; omega
              have d2 : decide (a < i) = false := by have f := F.out; simp; omega
              have d3 : decide (i < M) = true := by have f := F.out; simp; omega
              have d4 : decide (M < E) = true := by have f := F.out; simp; omega
              have d5 : decide (E < b) = false := by have f := F.out; simp; omega
              go_wp2_with fail
              refine (rotate_calls _ _ (x ++ S1) S2 T1 (T2 ++ y) R _ _ i m E _ HB2.out (by have f := F.out; (try simp only [List.length_append]); omega) (by have f := F.out; (try simp only [List.length_append]); omega) (by have f := F.out; (try simp only [List.length_append]); omega) (by have f := F.out; (try simp only [List.length_append]); omega) (by omega) (by omega) hsz).mono ?_
              rintro _ w2 ⟨rfl, hb, hk⟩
              have HB3 := Lib.hid hb
              have HK3 := Lib.hid (HK.out.trans hk)
              clear hb hk
              have HB4 : Hid (PB w2 g (x ++ (S1 ++ (T1 ++ (S2 ++ (T2 ++ y))))) R) := by
                have := HB3.out; rw [List.append_assoc] at this; exact this
              have HR1 : Hid (SS (S1 ++ T1) (S1 ++ T1)) := Lib.hid ⟨by rw [z1]; exact srt_left HT2.out, same.refl _⟩
              have HB5 : Hid (PB w2 g (x ++ ((S1 ++ T1) ++ (S2 ++ (T2 ++ y)))) R) := by
                have := HB4.out; rw [List.append_assoc S1]; exact this
              have HK4 := HK3
              have HB6 : Hid (PB w2 g ((x ++ (S1 ++ T1)) ++ (S2 ++ (T2 ++ y))) R) := by
                have := HB5.out; rw [List.append_assoc x]; exact this
              have LR : Hid ((S1 ++ T1).length = S1.length + T1.length) := Lib.hid (HR1.out.len.trans (List.length_append ..))
              have HR2 : Hid (SS (S2 ++ T2) (S2 ++ T2)) := Lib.hid ⟨by rw [z4]; rw [List.append_nil]; exact srt_right HS2.out, same.refl _⟩
              have HB7 : Hid (PB w2 g ((x ++ (S1 ++ T1)) ++ ((S2 ++ T2) ++ y)) R) := by
                have := HB6.out; rw [List.append_assoc S2]; exact this
              have HK5 := HK4
              go_wp2_with fail
              go_end0
              refine ⟨rfl, (S1 ++ T1) ++ (S2 ++ T2), ?_, ?_, HK5.out⟩
              · rw [ES.out, ET.out]; exact sym_join HS2.out HT2.out HF1.out HF2.out HR1.out HR2.out
              · have := HB7.out; simp only [List.append_assoc] at this ⊢; exact this
            · have z1 := List.eq_nil_of_length_eq_zero z10
              have d0 : decide (i < m) = true := by have f := F.out; simp; omega
              have d1 : decide (m < E) = true := by have f := F.out; simp; omega
              have d2 : decide (a < i) = false := by have f := F.out; simp; omega
              have d3 : decide (i < M) = true := by have f := F.out; simp; omega
              have d4 : decide (M < E) = true := by have f := F.out; simp; omega
              have d5 : decide (E < b) = true := by have f := F.out; simp; omega
              go_wp2_with fail
              refine (rotate_calls _ _ (x ++ S1) S2 T1 (T2 ++ y) R _ _ i m E _ HB2.out (by have f := F.out; (try simp only [List.length_append]); omega) (by have f := F.out; (try simp only [List.length_append]); omega) (by have f := F.out; (try simp only [List.length_append]); omega) (by have f := F.out; (try simp only [List.length_append]); omega) (by omega) (by omega) hsz).mono ?_
              rintro _ w2 ⟨rfl, hb, hk⟩
              have HB3 := Lib.hid hb
              have HK3 := Lib.hid (HK.out.trans hk)
              clear hb hk
              have HB4 : Hid (PB w2 g (x ++ (S1 ++ (T1 ++ (S2 ++ (T2 ++ y))))) R) := by
                have := HB3.out; rw [List.append_assoc] at this; exact this
              have HR1 : Hid (SS (S1 ++ T1) (S1 ++ T1)) := Lib.hid ⟨by rw [z1]; exact srt_left HT2.out, same.refl _⟩
              have HB5 : Hid (PB w2 g (x ++ ((S1 ++ T1) ++ (S2 ++ (T2 ++ y)))) R) := by
                have := HB4.out; rw [List.append_assoc S1]; exact this
              have HK4 := HK3
              have HB6 : Hid (PB w2 g ((x ++ (S1 ++ T1)) ++ (S2 ++ (T2 ++ y))) R) := by
                have := HB5.out; rw [List.append_assoc x]; exact this
              have LR : Hid ((S1 ++ T1).length = S1.length + T1.length) := Lib.hid (HR1.out.len.trans (List.length_append ..))
              go_wp2_with fail
              refine (IH.out _ _ (x ++ (S1 ++ T1)) S2 T2 y R _ _ M E b HB6.out (by have f := F.out; have := LR.out; (try simp only [List.length_append] at *); omega) (okW_perm (sym_perm HR1.out.2.1) OK4.out) (by have f := F.out; have := LR.out; (try simp only [List.length_append] at *); omega) (by have f := F.out; have := LR.out; (try simp only [List.length_append] at *); omega) (by have f := F.out; have := LR.out; (try simp only [List.length_append] at *); omega) (srt_right HS2.out) (srt_right HT2.out) (by omega) (by omega) (by have f := F.out; (try simp only [List.length_append]); omega) hsz).mono ?_
              rintro _ w4 ⟨rfl, r2, hr2, hb, hk⟩
              have HR2 := Lib.hid hr2
              have HB7 := Lib.hid hb
              have HK5 := Lib.hid (HK4.out.trans hk)
              clear hb hk hr2
              go_wp2_with fail
              go_end0
              refine ⟨rfl, (S1 ++ T1) ++ r2, ?_, ?_, HK5.out⟩
              · rw [ES.out, ET.out]; exact sym_join HS2.out HT2.out HF1.out HF2.out HR1.out HR2.out
              · have := HB7.out; simp only [List.append_assoc] at this ⊢; exact this
      · rcases Nat.eq_zero_or_pos S2.length with z20 | z20
        · rcases Nat.eq_zero_or_pos T1.length with z30 | z30
          · rcases Nat.eq_zero_or_pos T2.length with z40 | z40
            · exfalso; have f := F.out; omega
            · have z2 := List.eq_nil_of_length_eq_zero z20
              have z3 := List.eq_nil_of_length_eq_zero z30
              have d0 : decide (i < m) = false := by have f := F.out; simp; omega
              have d1 : decide (m < E) = false := by have f := F.out; simp; omega
              have d2 : decide (a < i) = true := by have f := F.out; simp; omega
              have d3 : decide (i < M) = false := by have f := F.out; simp; omega
              have d4 : decide (M < E) = false := by have f := F.out; simp; omega
              have d5 : decide (E < b) = true := by have f := F.out; simp; omega
              have HB3 : Hid (PB wo g (x ++ S1 ++ (T1 ++ (S2 ++ (T2 ++ y)))) R) := by
                have := HB2.out; rw [z2] at this ⊢; exact this
              have HK3 := HK
              have HB4 : Hid (PB wo g (x ++ (S1 ++ (T1 ++ (S2 ++ (T2 ++ y))))) R) := by
                have := HB3.out; rw [List.append_assoc] at this; exact this
              have HR1 : Hid (SS (S1 ++ T1) (S1 ++ T1)) := Lib.hid ⟨by rw [z3]; rw [List.append_nil]; exact srt_left HS2.out, same.refl _⟩
              have HB5 : Hid (PB wo g (x ++ ((S1 ++ T1) ++ (S2 ++ (T2 ++ y)))) R) := by
                have := HB4.out; rw [List.append_assoc S1]; exact this
              have HK4 := HK3
              have HB6 : Hid (PB wo g ((x ++ (S1 ++ T1)) ++ (S2 ++ (T2 ++ y))) R) := by
                have := HB5.out; rw [List.append_assoc x]; exact this
              have LR : Hid ((S1 ++ T1).length = S1.length + T1.length) := Lib.hid (HR1.out.len.trans (List.length_append ..))
              have HR2 : Hid (SS (S2 ++ T2) (S2 ++ T2)) := Lib.hid ⟨by rw [z2]; exact srt_right HT2.out, same.refl _⟩
              have HB7 : Hid (PB wo g ((x ++ (S1 ++ T1)) ++ ((S2 ++ T2) ++ y)) R) := by
                have := HB6.out; rw [List.append_assoc S2]; exact this
              have HK5 := HK4
              go_wp2_with fail
              go_end0
              refine ⟨rfl, (S1 ++ T1) ++ (S2 ++ T2), ?_, ?_, HK5.out⟩
              · rw [ES.out, ET.out]; exact sym_join HS2.out HT2.out HF1.out HF2.out HR1.out HR2.out
              · have := HB7.out; simp only [List.append_assoc] at this ⊢; exact this
          · rcases Nat.eq_zero_or_pos T2.length with z40 | z40
            · exfalso; have f := F.out; omega
            · have z2 := List.eq_nil_of_length_eq_zero z20
              have d0 : decide (i < m) = false := by have f := F.out; simp; omega
              have d1 : decide (m < E) = true := by have f := F.out; simp; omega
              have d2 : decide (a < i) = true := by have f := F.out; simp; omega
              have d3 : decide (i < M) = true := by have f := F.out; simp; omega
              have d4 : decide (M < E) = false := by have f := F.out; simp; omega
              have d5 : decide (E < b) = true := by have f := F.out; simp; omega
              have HB3 : Hid (PB wo g (x ++ S1 ++ (T1 ++ (S2 ++ (T2 ++ y)))) R) := by
                have := HB2.out; rw [z2] at this ⊢; exact this
              have HK3 := HK
              have HB4 : Hid (PB wo g (x ++ (S1 ++ (T1 ++ (S2 ++ (T2 ++ y))))) R) := by
                have := HB3.out; rw [List.append_assoc] at this; exact this
              go_wp2_with fail
              refine (IH.out _ _ x S1 T1 (S2 ++ (T2 ++ y)) R _ _ a i M HB4.out (by have f := F.out; (try simp only [List.length_append]); omega) OK4.out (by have f := F.out; (try simp only [List.length_append]); omega) (by have f := F.out; (try simp only [List.length_append]); omega) (by have f := F.out; (try simp only [List.length_append]); omega) (srt_left HS2.out) (srt_left HT2.out) (by omega) (by omega) (by have f := F.out; (try simp only [List.length_append]); omega) hsz).mono ?_
              rintro _ w3 ⟨rfl, r1, hr1, hb, hk⟩
              have HR1 := Lib.hid hr1
              have HB5 := Lib.hid hb
              have HK4 := Lib.hid (HK3.out.trans hk)
              clear hb hk hr1
              have HB6 : Hid (PB w3 g ((x ++ r1) ++ (S2 ++ (T2 ++ y))) R) := by
                have := HB5.out; rw [List.append_assoc x]; exact this
              have LR : Hid (r1.length = S1.length + T1.length) := Lib.hid (HR1.out.len.trans (List.length_append ..))
              have HR2 : Hid (SS (S2 ++ T2) (S2 ++ T2)) := Lib.hid ⟨by rw [z2]; exact srt_right HT2.out, same.refl _⟩
              have HB7 : Hid (PB w3 g ((x ++ r1) ++ ((S2 ++ T2) ++ y)) R) := by
                have := HB6.out; rw [List.append_assoc S2]; exact this
              have HK5 := HK4
              go_wp2_with fail
              go_end0
              refine ⟨rfl, r1 ++ (S2 ++ T2), ?_, ?_, HK5.out⟩
              · rw [ES.out, ET.out]; exact sym_join HS2.out HT2.out HF1.out HF2.out HR1.out HR2.out
              · have := HB7.out; simp only [List.append_assoc] at this ⊢; exact this
        · rcases Nat.eq_zero_or_pos T1.length with z30 | z30
          · rcases Nat.eq_zero_or_pos T2.length with z40 | z40
            · exfalso; have f := F.out; omega
            · have z3 := List.eq_nil_of_length_eq_zero z30
              have d0 : decide (i < m) = true := by have f := F.out; simp; omega
              have d1 : decide (m < E) = false := by have f := F.out; simp; omega
              have d2 : decide (a < i) = true := by have f := F.out; simp; omega
              have d3 : decide (i < M) = false := by have f := F.out; simp; omega
              have d4 : decide (M < E) = true := by have f := F.out; simp; omega
              have d5 : decide (E < b) = true := by have f := F.out; simp; omega
              have HB3 : Hid (PB wo g (x ++ S1 ++ (T1 ++ (S2 ++ (T2 ++ y)))) R) := by
                have := HB2.out; rw [z3] at this ⊢; exact this
              have HK3 := HK
              have HB4 : Hid (PB wo g (x ++ (S1 ++ (T1 ++ (S2 ++ (T2 ++ y))))) R) := by
                have := HB3.out; rw [List.append_assoc] at this; exact this
              have HR1 : Hid (SS (S1 ++ T1) (S1 ++ T1)) := Lib.hid ⟨by rw [z3]; rw [List.append_nil]; exact srt_left HS2.out, same.refl _⟩
              have HB5 : Hid (PB wo g (x ++ ((S1 ++ T1) ++ (S2 ++ (T2 ++ y)))) R) := by
                have := HB4.out; rw [List.append_assoc S1]; exact this
              have HK4 := HK3
              have HB6 : Hid (PB wo g ((x ++ (S1 ++ T1)) ++ (S2 ++ (T2 ++ y))) R) := by
                have := HB5.out; rw [List.append_assoc x]; exact this
              have LR : Hid ((S1 ++ T1).length = S1.length + T1.length) := Lib.hid (HR1.out.len.trans (List.length_append ..))
              go_wp2_with fail
              refine (IH.out _ _ (x ++ (S1 ++ T1)) S2 T2 y R _ _ M E b HB6.out (by have f := F.out; have := LR.out; (try simp only [List.length_append] at *); omega) (okW_perm (sym_perm HR1.out.2.1) OK4.out) (by have f := F.out; have := LR.out; (try simp only [List.length_append] at *); omega) (by have f := F.out; have := LR.out; (try simp only [List.length_append] at *); omega) (by have f := F.out; have := LR.out; (try simp only [List.length_append] at *); omega) (srt_right HS2.out) (srt_right HT2.out) (by omega) (by omega) (by have f := F.out; (try simp only [List.length_append]); omega) hsz).mono ?_
              rintro _ w4 ⟨rfl, r2, hr2, hb, hk⟩
              have HR2 := Lib.hid hr2
              have HB7 := Lib.hid hb
              have HK5 := Lib.hid (HK4.out.trans hk)
              clear hb hk hr2
              go_wp2_with fail
              go_end0
              refine ⟨rfl, (S1 ++ T1) ++ r2, ?_, ?_, HK5.out⟩
              · rw [ES.out, ET.out]; exact sym_join HS2.out HT2.out HF1.out HF2.out HR1.out HR2.out
              · have := HB7.out; simp only [List.append_assoc] at this ⊢; exact this
          · rcases Nat.eq_zero_or_pos T2.length with z40 | z40
            · have z4 := List.eq_nil_of_length_eq_zero z40
              have d0 : decide (i < m) = true := by have f := F.out; simp; omega
              have d1 : decide (m < E) = true := by have f := F.out; simp; omega
              have d2 : decide (a < i) = true := by have f := F.out; simp; omega
              have d3 : decide (i < M) = true := by have f := F.out; simp; omega
              have d4 : decide (M < E) = true := by have f := F.out; simp; omega
              have d5 : decide (E < b) = false := by have f := F.out; simp; omega
              go_wp2_with fail
              refine (rotate_calls _ _ (x ++ S1) S2 T1 (T2 ++ y) R _ _ i m E _ HB2.out (by have f := F.out; (try simp only [List.length_append]); omega) (by have f := F.out; (try simp only [List.length_append]); omega) (by have f := F.out; (try simp only [List.length_append]); omega) (by have f := F.out; (try simp only [List.length_append]); omega) (by omega) (by omega) hsz).mono ?_
              rintro _ w2 ⟨rfl, hb, hk⟩
              have HB3 := Lib.hid hb
              have HK3 := Lib.hid (HK.out.trans hk)
              clear hb hk
              have HB4 : Hid (PB w2 g (x ++ (S1 ++ (T1 ++ (S2 ++ (T2 ++ y))))) R) := by
                have := HB3.out; rw [List.append_assoc] at this; exact this
              go_wp2_with fail
              refine (IH.out _ _ x S1 T1 (S2 ++ (T2 ++ y)) R _ _ a i M HB4.out (by have f := F.out; (try simp only [List.length_append]); omega) OK4.out (by have f := F.out; (try simp only [List.length_append]); omega) (by have f := F.out; (try simp only [List.length_append]); omega) (by have f := F.out; (try simp only [List.length_append]); omega) (srt_left HS2.out) (srt_left HT2.out) (by omega) (by omega) (by have f := F.out; (try simp only [List.length_append]); omega) hsz).mono ?_
              rintro _ w3 ⟨rfl, r1, hr1, hb, hk⟩
              have HR1 := Lib.hid hr1
              have HB5 := Lib.hid hb
              have HK4 := Lib.hid (HK3.out.trans hk)
              clear hb hk hr1
              have HB6 : Hid (PB w3 g ((x ++ r1) ++ (S2 ++ (T2 ++ y))) R) := by
                have := HB5.out; rw [List.append_assoc x]; exact this
              have LR : Hid (r1.length = S1.length + T1.length) := Lib.hid (HR1.out.len.trans (List.length_append ..))
              have HR2 : Hid (SS (S2 ++ T2) (S2 ++ T2)) := Lib.hid ⟨by rw [z4]; rw [List.append_nil]; exact srt_right HS2.out, same.refl _⟩
              have HB7 : Hid (PB w3 g ((x ++ r1) ++ ((S2 ++ T2) ++ y)) R) := by
                have := HB6.out; rw [List.append_assoc S2]; exact this
              have HK5 := HK4
              go_wp2_with fail
              go_end0
              refine ⟨rfl, r1 ++ (S2 ++ T2), ?_, ?_, HK5.out⟩
              · rw [ES.out, ET.out]; exact sym_join HS2.out HT2.out HF1.out HF2.out HR1.out HR2.out
              · have := HB7.out; simp only [List.append_assoc] at this ⊢; exact this
            · have d0 : decide (i < m) = true := by have f := F.out; simp; omega
              have d1 : decide (m < E) = true := by have f := F.out; simp; omega
              have d2 : decide (a < i) = true := by have f := F.out; simp; omega
              have d3 : decide (i < M) = true := by have f := F.out; simp; omega
              have d4 : decide (M < E) = true := by have f := F.out; simp; omega
              have d5 : decide (E < b) = true := by have f := F.out; simp; omega
              go_wp2_with fail
              refine (rotate_calls _ _ (x ++ S1) S2 T1 (T2 ++ y) R _ _ i m E _ HB2.out (by have f := F.out; (try simp only [List.length_append]); omega) (by have f := F.out; (try simp only [List.length_append]); omega) (by have f := F.out; (try simp only [List.length_append]); omega) (by have f := F.out; (try simp only [List.length_append]); omega) (by omega) (by omega) hsz).mono ?_
              rintro _ w2 ⟨rfl, hb, hk⟩
              have HB3 := Lib.hid hb
              have HK3 := Lib.hid (HK.out.trans hk)
              clear hb hk
              have HB4 : Hid (PB w2 g (x ++ (S1 ++ (T1 ++ (S2 ++ (T2 ++ y))))) R) := by
                have := HB3.out; rw [List.append_assoc] at this; exact this
              go_wp2_with fail
              refine (IH.out _ _ x S1 T1 (S2 ++ (T2 ++ y)) R _ _ a i M HB4.out (by have f := F.out; (try simp only [List.length_append]); omega) OK4.out (by have f := F.out; (try simp only [List.length_append]); omega) (by have f := F.out; (try simp only [List.length_append]); omega) (by have f := F.out; (try simp only [List.length_append]); omega) (srt_left HS2.out) (srt_left HT2.out) (by omega) (by omega) (by have f := F.out; (try simp only [List.length_append]); omega) hsz).mono ?_
              rintro _ w3 ⟨rfl, r1, hr1, hb, hk⟩
              have HR1 := Lib.hid hr1
              have HB5 := Lib.hid hb
              have HK4 := Lib.hid (HK3.out.trans hk)
              clear hb hk hr1
              have HB6 : Hid (PB w3 g ((x ++ r1) ++ (S2 ++ (T2 ++ y))) R) := by
                have := HB5.out; rw [List.append_assoc x]; exact this
              have LR : Hid (r1.length = S1.length + T1.length) := Lib.hid (HR1.out.len.trans (List.length_append ..))
              go_wp2_with fail
              refine (IH.out _ _ (x ++ r1) S2 T2 y R _ _ M E b HB6.out (by have f := F.out; have := LR.out; (try simp only [List.length_append] at *); omega) (okW_perm (sym_perm HR1.out.2.1) OK4.out) (by have f := F.out; have := LR.out; (try simp only [List.length_append] at *); omega) (by have f := F.out; have := LR.out; (try simp only [List.length_append] at *); omega) (by have f := F.out; have := LR.out; (try simp only [List.length_append] at *); omega) (srt_right HS2.out) (srt_right HT2.out) (by omega) (by omega) (by have f := F.out; (try simp only [List.length_append]); omega) hsz).mono ?_
              rintro _ w4 ⟨rfl, r2, hr2, hb, hk⟩
              have HR2 := Lib.hid hr2
              have HB7 := Lib.hid hb
              have HK5 := Lib.hid (HK4.out.trans hk)
              clear hb hk hr2
              go_wp2_with fail
              go_end0
              refine ⟨rfl, r1 ++ r2, ?_, ?_, HK5.out⟩
              · rw [ES.out, ET.out]; exact sym_join HS2.out HT2.out HF1.out HF2.out HR1.out HR2.out
              · have := HB7.out; simp only [List.append_assoc] at this ⊢; exact this
end Go.Proofs.Ytcblibefmclloaa
