import Derived.Test.YtcblibefmclloaaMChunk
import Derived.Test.YtcblibefmclloaaSymMerge
set_option linter.unusedVariables false
set_option linter.unusedSimpArgs false
namespace Go.Proofs.Ytcblibefmclloaa
open Go.RowKit
theorem sym_all : ∀ N, SymC N := by
  intro N
  induction N with
  | zero => intro w g x s t y R n c a m b h hn hw h1 h2 h3 hs ht ls lt hN hsz; omega
  | succ N ih =>
    intro w g x s t y R n c a m b h hn hw h1 h2 h3 hs ht ls lt hN hsz
    by_cases e1 : s.length = 1
    · obtain ⟨p, rfl⟩ := List.length_eq_one_iff.1 e1
      exact symLeft_calls w g x t y p R n c a m b h hn hw h1 (by simpa using h2) (by simpa using h3) ht hsz
    · by_cases e2 : t.length = 1
      · obtain ⟨q, rfl⟩ := List.length_eq_one_iff.1 e2
        exact symRight_calls w g x s y q R n c a m b h hn hw h1 h2 (by simpa using h3) e1 hs hsz
      · exact symGen_calls N ih w g x s t y R n c a m b h hn hw h1 h2 h3 hs ht (by omega) (by omega) hN hsz
theorem sym_calls (w : World) (g : Nat) (x s t y : List Pk) (R : List Value) (n c a m b : Nat) (h : PB w g (x ++ (s ++ (t ++ y))) R) (hn : n = (x ++ (s ++ (t ++ y))).length) (hw : okW (x ++ (s ++ (t ++ y))))
    (h1 : a = x.length) (h2 : m = x.length + s.length) (h3 : b = x.length + s.length + t.length) (hs : srt s) (ht : srt t) (ls : 0 < s.length) (lt : 0 < t.length) (hsz : n ≤ 1000000) :
    Calls Try.prog 47 #[.slice (some ⟨g, 0, none⟩) n c, .int .i64 a, .int .i64 m, .int .i64 b, theCmp] w fun e w' => e = .returned (.tuple #[]) ∧ ∃ r, SS r (s ++ t) ∧ PB w' g (x ++ (r ++ y)) R ∧ Keeps [g] w w' :=
  sym_all _ w g x s t y R n c a m b h hn hw h1 h2 h3 hs ht ls lt (Nat.le_refl _) hsz
theorem okW_same {b : Nat} {x y z l : List Pk} (h : same x y) (hl : l = y ++ z) (k : okW l) : okW (x ++ z) := okW_perm (List.Perm.append_right z h.1) (hl ▸ k)
theorem ch_same {b : Nat} : ∀ {n : Nat} {r l : List Pk}, r.length ≤ n → 0 < b → Ch b r l → same r l := by
  intro n
  induction n with
  | zero =>
    intro r l hn hb h
    have e1 : r = [] := List.eq_nil_of_length_eq_zero (by omega)
    have e2 : l = [] := List.eq_nil_of_length_eq_zero (by have := h.1; omega)
    subst e1 e2
    exact same.refl _
  | succ n ih =>
    intro r l hn hb h
    rw [← List.take_append_drop b r, ← List.take_append_drop b l]
    refine same.app ?_ ?_
    · have := h.2 0
      rw [Nat.zero_mul] at this
      exact this.2
    · by_cases hr : r = []
      · subst hr
        have e2 : l = [] := List.eq_nil_of_length_eq_zero (by have := h.1; simpa using this.symm)
        subst e2
        exact same.refl _
      · refine ih (by rw [List.length_drop]; have := List.length_pos_iff.2 hr; omega) hb ⟨by rw [List.length_drop, List.length_drop, h.1], fun k => ?_⟩
        have := h.2 (k + 1)
        unfold pc at *
        rw [List.drop_drop, List.drop_drop]
        rwa [Nat.add_mul, Nat.one_mul, Nat.add_comm] at this
set_option maxRecDepth 100000 in
set_option maxHeartbeats 4000000 in
theorem stable_calls (w : World) (g : Nat) (L : List Pk) (R : List Value) (n c : Nat) (h : PB w g L R) (hn : n = L.length) (hw : okW L) (hsz : n ≤ 1000000) :
    Calls Try.prog 44 #[.slice (some ⟨g, 0, none⟩) n c, .int .i64 n, theCmp] w fun e w' => e = .returned (.tuple #[]) ∧ ∃ r, SS r L ∧ PB w' g r R ∧ Keeps [g] w w' := by
  have H := Lib.hid h
  have HN := Lib.hid hn
  have HW := Lib.hid hw
  clear h hn hw
  go_enter Try.func44, Try.ntmps44
  go_wp2_with fail
  go_loopw [7, 8] (fun av bv wr => ∃ (A B k : Nat) (x : List Pk), A ≤ n ∧ B = A + 20 ∧ av = .int .i64 A ∧ bv = .int .i64 B ∧ Hid (A = k * 20) ∧ Hid (Ch 20 x (L.take A)) ∧ Hid (PB wr g (x ++ L.drop A) R) ∧ Hid (Keeps [g] w wr)) (fun _ bv _ => (n + 20 - intOf bv).toNat)
  case atStart => exact ⟨0, 20, 0, [], by omega, rfl, rfl, rfl, Lib.hid rfl, Lib.hid (by rw [List.take_zero]; exact ch_nil _), H, Lib.hid (Keeps.refl _ _)⟩
  case round =>
    clear H
    obtain ⟨A, B, k, x, hA, hB', rfl, rfl, HA, HC, HB, HK⟩ := hrel
    have hx : Hid (x.length = A) := by have := HC.out.1; rw [List.length_take] at this; have := HN.out; show _ = _; omega
    have OKx : Hid (okW (x ++ L.drop A)) := okW_same (b := 0) (ch_same (Nat.le_refl _) (by decide) HC.out) (List.take_append_drop A L).symm HW.out
    have HB2 := Lib.hid hB'
    by_cases hlt : B ≤ n
    · have e0 : decide (B ≤ n) = true := by simpa using hlt
      have es : Hid (L.drop A = pc L A 20 ++ L.drop B) := by rw [hB']; exact drop_pc L A 20
      have lp : Hid ((pc L A 20).length = 20) := by show _ = _; rw [pc_len]; have := HN.out; omega
      have HB3 : Hid (PB wr g (x ++ (pc L A 20 ++ L.drop B)) R) := by have := HB.out; rwa [es.out] at this
      have OK3 : Hid (okW (x ++ (pc L A 20 ++ L.drop B))) := by have := OKx.out; rwa [es.out] at this
      have LN : Hid (n = (x ++ (pc L A 20 ++ L.drop B)).length) := by show _ = _; rw [← es.out, List.length_append, List.length_drop, hx.out]; have := HN.out; omega
      clear hB' HB
      go_wp2_with fail
      refine (insSort_calls _ _ x (pc L A 20) (L.drop B) R _ _ A B HB3.out LN.out OK3.out hx.out.symm (by have := hx.out; have := lp.out; have := HB2.out; omega) hsz).mono ?_
      rintro e w1 ⟨rfl, r, hr, hb, hk⟩
      have HR := Lib.hid hr
      have HB4 := Lib.hid hb
      have HK1 := Lib.hid (HK.out.trans hk)
      clear hr hb hk
      go_wp2_with fail
      go_roundw
      case rel =>
        refine ⟨B, B + 20, k + 1, x ++ r, hlt, rfl, rfl, by go_num, Lib.hid (by have := HA.out; have := HB2.out; omega), Lib.hid ?_, Lib.hid ?_, HK1⟩
        · rw [HB2.out, take_pc]
          exact ch_app HC.out (hx.out.trans HA.out) HR.out (by rw [lp.out]; exact Nat.le_refl _)
        · rw [List.append_assoc]; exact HB4.out
      case measure => simp [intOf]; omega
    · have e0 : decide (B ≤ n) = false := by simpa using hlt
      have HB3 : Hid (PB wr g (x ++ (L.drop A ++ [])) R) := by have := HB.out; rwa [← List.append_nil (L.drop A)] at this
      have OK3 : Hid (okW (x ++ (L.drop A ++ []))) := by have := OKx.out; rwa [← List.append_nil (L.drop A)] at this
      have lp : Hid ((L.drop A).length = n - A) := by show _ = _; rw [List.length_drop]; have := HN.out; omega
      clear hB' HB
      go_wp2_with fail
      refine (insSort_calls _ _ x (L.drop A) [] R _ _ A n HB3.out (by have := hx.out; have := lp.out; rw [List.length_append, List.length_append, List.length_nil]; omega) OK3.out hx.out.symm (by have := hx.out; have := lp.out; omega) hsz).mono ?_
      rintro e w1 ⟨rfl, r, hr, hb, hk⟩
      have HCh : Hid (Ch 20 (x ++ r) L) := by
        have := ch_app HC.out (hx.out.trans HA.out) hr (by rw [lp.out]; have := HB2.out; omega)
        rwa [List.take_append_drop] at this
      have HB4 : Hid (PB w1 g (x ++ r) R) := by rw [List.append_nil] at hb; exact hb
      have HK1 := Lib.hid (HK.out.trans hk)
      generalize x ++ r = r0 at *
      clear hr hb hk HK HB3 OK3 HC OKx hx HA e0 lp HB2
      obtain ⟨wo, rfl⟩ : ∃ wo : World, wo = w1 := ⟨_, rfl⟩
      go_wp2_with fail
      go_loopw [6] (fun bv wr => ∃ (bs : Nat) (r : List Pk), 20 ≤ bs ∧ bs ≤ 2000000 ∧ bv = .int .i64 bs ∧ Hid (Ch bs r L) ∧ Hid (PB wr g r R) ∧ Hid (Keeps [g] w wr)) (fun bv _ => (n - intOf bv).toNat)
      case atStart => exact ⟨20, r0, by omega, by omega, rfl, HCh, HB4, HK1⟩
      case round =>
        clear HCh HB4 HK1
        obtain ⟨bs, r, hb1, hb2, rfl, HC, HB, HK⟩ := hrel
        obtain ⟨wq, rfl⟩ : ∃ wq : World, wq = wr := ⟨_, rfl⟩
        have lr : Hid (r.length = n) := by have := HC.out.1; have := HN.out; show _ = _; omega
        have HS : Hid (same r L) := ch_same (Nat.le_refl _) (by omega) HC.out
        by_cases hlt : bs < n
        · have e0 : decide (bs < n) = true := by simpa using hlt
          go_wp2_with fail
          go_loopw [7, 8] (fun av bv wr => ∃ (A B k : Nat) (x : List Pk), A ≤ n ∧ B = A + 2 * bs ∧ av = .int .i64 A ∧ bv = .int .i64 B ∧ Hid (A = k * (2 * bs)) ∧ Hid (Ch (2 * bs) x (L.take A)) ∧ Hid (PB wr g (x ++ r.drop A) R) ∧ Hid (Keeps [g] w wr)) (fun _ bv _ => (n + 2 * bs - intOf bv).toNat)
          case atStart => exact ⟨0, 2 * bs, 0, [], by omega, by omega, rfl, by go_num, Lib.hid (by omega), Lib.hid (by rw [List.take_zero]; exact ch_nil _), HB, HK⟩
          case round =>
            clear HB HK
            obtain ⟨A, B, k, x, hA, hB', rfl, rfl, HA, HCx, HB, HK⟩ := hrel
            have hx : Hid (x.length = A) := by have := HCx.out.1; rw [List.length_take] at this; have := HN.out; show _ = _; omega
            have HD : Hid (okW r) := okW_perm HS.out.1 HW.out
            have OKx : Hid (okW (x ++ r.drop A)) := by
              have s1 := ch_same (Nat.le_refl _) (by omega) HCx.out
              refine okW_mem.2 fun p hp => ?_
              rcases List.mem_append.1 hp with hp | hp
              · exact okW_mem.1 HW.out p (List.mem_of_mem_take (s1.1.mem_iff.1 hp))
              · exact okW_mem.1 HD.out p (List.mem_of_mem_drop hp)
            have hA2 : Hid (A = (2 * k) * bs) := by show _ = _; rw [HA.out, Nat.mul_comm 2 bs, ← Nat.mul_assoc, Nat.mul_comm 2 k, Nat.mul_assoc, Nat.mul_assoc, Nat.mul_comm bs 2]
            have S1 : Hid (SS (pc r A bs) (pc L A bs)) := ch_at HC.out hA2.out
            have S2 : Hid (SS (pc r (A + bs) bs) (pc L (A + bs) bs)) := ch_at (k := 2 * k + 1) HC.out (by rw [hA2.out]; simp only [Nat.add_mul, Nat.one_mul])
            have HB2 := Lib.hid hB'
            by_cases hlt : B ≤ n
            · have e0 : decide (B ≤ n) = true := by simpa using hlt
              have l1 : Hid ((pc r A bs).length = bs) := by show _ = _; rw [pc_len]; have := lr.out; omega
              have l2 : Hid ((pc r (A + bs) bs).length = bs) := by show _ = _; rw [pc_len]; have := lr.out; omega
              have es : Hid (r.drop A = pc r A bs ++ (pc r (A + bs) bs ++ r.drop B)) := by
                show _ = _
                rw [drop_pc r A bs, drop_pc r (A + bs) bs, hB', show A + bs + bs = A + 2 * bs by omega]
              have HB3 : Hid (PB wr g (x ++ (pc r A bs ++ (pc r (A + bs) bs ++ r.drop B))) R) := by have := HB.out; rwa [es.out] at this
              have OK3 : Hid (okW (x ++ (pc r A bs ++ (pc r (A + bs) bs ++ r.drop B)))) := by have := OKx.out; rwa [es.out] at this
              have LN : Hid (n = (x ++ (pc r A bs ++ (pc r (A + bs) bs ++ r.drop B))).length) := by show _ = _; rw [← es.out, List.length_append, List.length_drop, hx.out]; have := lr.out; omega
              clear hB' HB
              go_wp2_with fail
              rw [show ((A : Int) + bs) = ((A + bs : Nat) : Int) by omega]
              refine (sym_calls _ _ x (pc r A bs) (pc r (A + bs) bs) (r.drop B) R _ _ A (A + bs) B HB3.out LN.out OK3.out hx.out.symm (by have := hx.out; have := l1.out; omega) (by have := hx.out; have := l1.out; have := l2.out; have := HB2.out; omega) S1.out.1 S2.out.1 (by have := l1.out; omega) (by have := l2.out; omega) hsz).mono ?_
              rintro e w1 ⟨rfl, q, hr, hb, hk⟩
              have HR : Hid (SS q (pc L A (2 * bs))) := by show SS _ _; rw [pc_two]; exact ss_trans_app hr S1.out S2.out
              have HB4 := Lib.hid hb
              have HK1 := Lib.hid (HK.out.trans hk)
              clear hr hb hk
              go_wp2_with fail
              go_roundw
              case rel =>
                refine ⟨B, B + 2 * bs, k + 1, x ++ q, hlt, rfl, rfl, by go_num, Lib.hid (by rw [Nat.add_mul, Nat.one_mul, ← HA.out]; exact HB2.out), Lib.hid ?_, Lib.hid ?_, HK1⟩
                · rw [HB2.out, take_pc]
                  exact ch_app HCx.out (hx.out.trans HA.out) HR.out (by rw [pc_len]; omega)
                · rw [List.append_assoc]; exact HB4.out
              case measure => simp [intOf]; omega
            · have e0 : decide (B ≤ n) = false := by simpa using hlt
              by_cases hm : A + bs < n
              · have e5 : decide ((A : Int) + bs < n) = true := by simp; omega
                have l1 : Hid ((pc r A bs).length = bs) := by show _ = _; rw [pc_len]; have := lr.out; omega
                have l2 : Hid ((pc r (A + bs) bs).length = n - (A + bs)) := by show _ = _; rw [pc_len]; have := lr.out; omega
                have es : Hid (r.drop A = pc r A bs ++ (pc r (A + bs) bs ++ [])) := by
                  show _ = _
                  rw [drop_pc r A bs, drop_pc r (A + bs) bs, List.drop_eq_nil_of_le (show r.length ≤ A + bs + bs by have := lr.out; omega)]
                have HB3 : Hid (PB wr g (x ++ (pc r A bs ++ (pc r (A + bs) bs ++ []))) R) := by have := HB.out; rwa [es.out] at this
                have OK3 : Hid (okW (x ++ (pc r A bs ++ (pc r (A + bs) bs ++ [])))) := by have := OKx.out; rwa [es.out] at this
                have LN : Hid (n = (x ++ (pc r A bs ++ (pc r (A + bs) bs ++ []))).length) := by show _ = _; rw [← es.out, List.length_append, List.length_drop, hx.out]; have := lr.out; omega
                clear hB' HB
                go_wp2_with fail
                rw [show ((A : Int) + bs) = ((A + bs : Nat) : Int) by omega]
                refine (sym_calls _ _ x (pc r A bs) (pc r (A + bs) bs) [] R _ _ A (A + bs) n HB3.out LN.out OK3.out hx.out.symm (by have := hx.out; have := l1.out; omega) (by have := hx.out; have := l1.out; have := l2.out; omega) S1.out.1 S2.out.1 (by have := l1.out; omega) (by have := l2.out; omega) hsz).mono ?_
                rintro e w1 ⟨rfl, q, hr, hb, hk⟩
                have HCh : Hid (Ch (2 * bs) (x ++ q) L) := by
                  have hq : SS q (pc L A (2 * bs)) := by rw [pc_two]; exact ss_trans_app hr S1.out S2.out
                  have hd : pc L A (2 * bs) = L.drop A := by unfold pc; rw [List.take_of_length_le (by rw [List.length_drop]; have := HN.out; have := HB2.out; omega)]
                  rw [hd] at hq
                  have := ch_app HCx.out (hx.out.trans HA.out) hq (by rw [List.length_drop]; have := HN.out; have := HB2.out; omega)
                  rwa [List.take_append_drop] at this
                have HB4 : Hid (PB w1 g (x ++ q) R) := by rw [List.append_nil] at hb; exact hb
                have HK1 := Lib.hid (HK.out.trans hk)
                clear hr hb hk
                go_wp2_with fail
                refine ⟨⟨2 * bs, x ++ q, by omega, by omega, by go_num, HCh, HB4, HK1⟩, by simp [intOf]; omega⟩
              · have e5 : decide ((A : Int) + bs < n) = false := by simp; omega
                have HCh : Hid (Ch (2 * bs) (x ++ r.drop A) L) := by
                  have hd : ∀ z : List Pk, z.length = n → pc z A bs = z.drop A := fun z hz => by unfold pc; rw [List.take_of_length_le (by rw [List.length_drop]; omega)]
                  have hq := S1.out
                  rw [hd r lr.out, hd L HN.out.symm] at hq
                  have := ch_app HCx.out (hx.out.trans HA.out) hq (by rw [List.length_drop]; have := HN.out; have := HB2.out; omega)
                  rwa [List.take_append_drop] at this
                clear hB'
                go_wp2_with fail
                refine ⟨⟨2 * bs, x ++ r.drop A, by omega, by omega, by go_num, HCh, HB, HK⟩, by simp [intOf]; omega⟩
        · have e0 : decide (bs < n) = false := by simpa using hlt
          go_wp2_with fail
          go_end0
          exact ⟨rfl, r, ch_done HC.out (by have := HN.out; omega), HB.out, HK.out⟩
set_option maxHeartbeats 400000 in
/-- The library's stable sorting of packs by weight. -/
theorem sort_calls (w : World) (g : Nat) (L : List Pk) (R : List Value) (n c : Nat) (h : PB w g L R) (hn : n = L.length) (hw : okW L) (hsz : n ≤ 1000000) :
    Calls Try.prog 34 #[.slice (some ⟨g, 0, none⟩) n c, theCmp] w fun e w' => e = .returned (.tuple #[]) ∧ ∃ r, SS r L ∧ PB w' g r R ∧ Keeps [g] w w' := by
  have H := Lib.hid h
  have HN := Lib.hid hn
  have HW := Lib.hid hw
  clear h hn hw
  go_enter Try.func34, Try.ntmps34
  go_wp2_with fail
  refine (stable_calls _ _ L R _ _ H.out HN.out HW.out hsz).mono ?_
  rintro e w1 ⟨rfl, r, hr, hb, hk⟩
  have HR := Lib.hid hr
  have HB4 := Lib.hid hb
  have HK1 := Lib.hid hk
  clear hr hb hk
  go_wp2_with fail
  go_end0
  exact ⟨rfl, r, HR.out, HB4.out, HK1.out⟩
end Go.Proofs.Ytcblibefmclloaa
