/-
  A stream that is nil answers so, whatever it is fed; of any bytes.
-/
import Derived.Test.YtkpabdjniiepkaaDoorDNilJ
import Derived.Test.YtkpabdjniiepkaaDoorDNilB
import Derived.Test.YtkpabdjniiepkaaDoorDNilG
import Derived.Test.YtkpabdjniiepkaaDoorDNilF
import Derived.Test.YtkpabdjniiepkaaDoorDNilA
import Derived.Laws.BytesArg
import Derived.Test.YtkpabdjniiepkaaDoorDNilI
import Derived.Lib.SlBytesConst
set_option linter.unusedVariables false
set_option linter.unusedSimpArgs false
namespace Go.Proofs.YtkpabdjniiepkaaDoor
open Go.RowKit
/-- What the reference's reading gives. -/
def RReadP (w : World) (bs : List Int) (most : Nat) (r : IRes) (e : Ending) (w' : World) : Prop :=
  ∃ g B M c q ob, e = .returned (.pointer (some ⟨g, 0, none⟩)) ∧ RD w' g B M c bs q r.1 most r.2.2 ob ∧ (r.2.2 = 0 → q = r.2.1) ∧ w.heap.size ≤ g ∧ Keeps [] w w'
theorem fix_ok : fixDist.all okLen = true := by decide +kernel
set_option maxRecDepth 100000 in
set_option maxHeartbeats 4000000 in
theorem rread_calls (w : World) (A : Option Addr) (n c : Nat) (bs : List Int) (most : Nat) (hr : RI .u8 w A n bs) (hbyte : ∀ j, 0 ≤ nth bs j ∧ nth bs j ≤ 255) (hn : n ≤ 1000000) (hm : most ≤ 16384) :
    Calls Tryd.prog 51 #[.slice A n c, .int .i64 most] w (RReadP w bs most (inflF bs most)) := by
  have HR := Lib.hid hr
  have HBY := Lib.hid hbyte
  have HLB := Lib.hid hr.len
  clear hr hbyte
  go_enter Tryd.func51, Tryd.ntmps51
  go_wp2_with fail
  refine (of_calls w A n c bs HR.out HBY.out (by omega)).mono ?_
  rintro _ w1 ⟨v1, rfl, ho1, hb1⟩
  have hk1 := Keeps.of_below hb1 (S := [])
  obtain ⟨B, cB, rfl, hri, -, hlo⟩ := own_ri ho1
  have HRB := Lib.hid hri
  have HLO : Hid (∀ a, B = some a → a.block < w1.heap.size) := Lib.hid (fun a ha => (hlo a ha).2.1)
  have HK1 := Lib.hid hk1
  clear ho1 hb1 hri hlo hk1 HR
  obtain ⟨M, hM⟩ : ∃ M, M = 8 * n := ⟨_, rfl⟩
  rw [← hM] at HRB ⊢
  have HM : Hid (M = 8 * bs.length) := Lib.hid (by rw [HLB.out, hM])
  have hM2 : M ≤ 100000000 := by omega
  clear hM
  obtain ⟨g, hg⟩ : ∃ g, g = w1.heap.size := ⟨_, rfl⟩
  obtain ⟨w2, hw2⟩ : ∃ w2, w2 = w1.alloc (.cells #[.slice B M cB, .int .i64 0, .slice none 0 0, .int .i64 most, .int .i64 0] 82) := ⟨_, rfl⟩
  have hk2 : Keeps [] w1 w2 := by rw [hw2]; exact (Keeps.refl [] w1).alloc _
  have hb2 : Blk w2 g 82 [.slice B M cB, .int .i64 0, .slice none 0 0, .int .i64 most, .int .i64 0] := by rw [hw2, hg]; exact blk_new w1 _ _
  have H2 : Hid (RD w2 g B M cB bs 0 [] most 0 none) := Lib.hid ⟨⟨_, hb2, World.ownsRow_nil _ _ _ _, rfl⟩, HRB.out.keeps hk2 (off_nil _), fun a ha => by rw [hg]; exact HLO.out a ha, HM.out, by omega, by simp, hm, hM2⟩
  have HK2 := Lib.hid (HK1.out.trans hk2)
  have HG : Hid (w.heap.size ≤ g) := Lib.hid (by rw [hg]; exact HK1.out.size)
  go_upto_region 2 with (fail)
  rw [← hw2, ← hg]
  clear hw2 hg hk2 hb2 HRB HLO HK1
  go_wp2_with fail
  go_loopg [6] (8 * bs.length + 2) (fun k lv wr => ∃ (la : Int) (q : Nat) (o : List Int) (e : Int) (ob : Option Nat), lv = .int .i64 la ∧ Hid ((la = 0 ∧ e = 0 ∧ 8 * bs.length - q + 1 < k ∧ q ≤ 8 * bs.length ∧ inflF bs most = blksF bs most (k - 1) o q) ∨
      ((la ≠ 0 ∨ e ≠ 0) ∧ 0 < k ∧ (inflF bs most).1 = o ∧ (inflF bs most).2.2 = e ∧ (e = 0 → q = (inflF bs most).2.1))) ∧ Hid (RD wr g B M cB bs q o most e ob) ∧ Hid (FR g none ob w2 wr))
  case atStart => exact ⟨0, 0, [], 0, none, rfl, Lib.hid (.inl ⟨rfl, rfl, by omega, by omega, rfl⟩), H2, Lib.hid (FR.refl _ _ _)⟩
  case round =>
    clear H2
    obtain ⟨la, q, o, e, ob, rfl, HS, H, K⟩ := hrel
    obtain ⟨-, -, -, c4, -⟩ := H.out.cells
    have HDONE : Hid (∀ (wx : World) (q : Nat) (o : List Int) (e : Int) (ob : Option Nat), (inflF bs most).1 = o → (inflF bs most).2.2 = e → (e = 0 → q = (inflF bs most).2.1) → RD wx g B M cB bs q o most e ob → FR g none ob w2 wx →
        RReadP w bs most (inflF bs most) (.returned (.pointer (some ⟨g, 0, none⟩))) wx) := Lib.hid (fun wx q o e ob h1 h2 h3 h4 h5 =>
      ⟨g, B, M, cB, q, ob, rfl, by rw [h1, h2]; exact h4, fun h => h3 (by rw [← h2]; exact h), HG.out, FR.new HK2.out h5 HG.out (fun x hx => by cases hx)⟩)
    by_cases hla : la = 0
    rotate_left
    · have e1 : (la == 0) = false := by simpa using hla
      obtain ⟨h1, h2, h3⟩ : (inflF bs most).1 = o ∧ (inflF bs most).2.2 = e ∧ (e = 0 → q = (inflF bs most).2.1) := by
        rcases HS.out with ⟨a, _⟩ | ⟨-, -, a, b, c⟩
        · exact absurd a hla
        · exact ⟨a, b, c⟩
      have HF := Lib.hid (HDONE.out wr q o e ob h1 h2 h3 H.out K.out)
      clear HS h1 h2 h3 hla HDONE
      go_wp2_with fail
      go_ret
      exact HF.out
    by_cases hez : e = 0
    rotate_left
    · have e2 : (e == 0) = false := by simpa using hez
      obtain ⟨h1, h2, h3⟩ : (inflF bs most).1 = o ∧ (inflF bs most).2.2 = e ∧ (e = 0 → q = (inflF bs most).2.1) := by
        rcases HS.out with ⟨-, a, _⟩ | ⟨-, -, a, b, c⟩
        · exact absurd a hez
        · exact ⟨a, b, c⟩
      have HF := Lib.hid (HDONE.out wr q o e ob h1 h2 h3 H.out K.out)
      subst hla
      clear HS h1 h2 h3 hez HDONE
      go_wp2_with fail
      go_ret
      exact HF.out
    subst hla
    subst hez
    obtain ⟨hk, hq, hin⟩ : 8 * bs.length - q + 1 < gk ∧ q ≤ 8 * bs.length ∧ inflF bs most = blksF bs most (gk - 1) o q := by
      rcases HS.out with ⟨-, -, a, b, c⟩ | ⟨a, _⟩
      · exact ⟨a, b, c⟩
      · rcases a with a | a <;> exact absurd rfl a
    obtain ⟨f, rfl⟩ : ∃ f, gk = f + 1 + 1 := ⟨gk - 2, by omega⟩
    rw [show f + 1 + 1 - 1 = f + 1 by omega] at hin
    have HS2 : Hid (inflF bs most = if 8 * bs.length < q + 1 then (o, 0, 55)
      else if 8 * bs.length < q + 3 then (o, 0, 55)
      else if (blockF bs most (numB bs (q + 1) 2) o (q + 3)).2.2 ≠ 0 then blockF bs most (numB bs (q + 1) 2) o (q + 3)
      else if numB bs q 1 = 0 then blksF bs most f (blockF bs most (numB bs (q + 1) 2) o (q + 3)).1 (blockF bs most (numB bs (q + 1) 2) o (q + 3)).2.1
      else blockF bs most (numB bs (q + 1) 2) o (q + 3)) := Lib.hid (by rw [hin, blksF])
    clear hin HS
    go_wp2_with fail
    clear c4
    refine (rtake_calls wr g B M cB bs q o most 0 ob 1 1 rfl H.out (by omega)).mono ?_
    rintro _ w3 ⟨la, q1, e1, rfl, h3, k3, l0, l1, -, hc3⟩
    have H3 := Lib.hid h3
    have K3 := Lib.hid (K.out.trans (FR.of_keeps k3))
    rw [show (2 : Int) ^ 1 = 2 from rfl] at l1
    clear h3 k3 H K
    go_wp2_with fail
    refine (rtake_calls w3 g B M cB bs q1 o most e1 ob 2 2 rfl H3.out (by omega)).mono ?_
    rintro _ w4 ⟨ki, q2, e2, rfl, h4, k4, n0, n1, -, hc4⟩
    have H4 := Lib.hid h4
    have K4 := Lib.hid (K3.out.trans (FR.of_keeps k4))
    rw [show (2 : Int) ^ 2 = 4 from rfl] at n1
    obtain ⟨-, -, -, c4, -⟩ := h4.cells
    have f4 := h4.free 4
    clear h4 k4 H3 K3
    have HC : Hid ((e2 = 0 ∧ q + 3 ≤ 8 * bs.length ∧ q2 = q + 3 ∧ la = numB bs q 1 ∧ ki = numB bs (q + 1) 2) ∨ (e2 = 55 ∧ inflF bs most = (o, 0, 55))) := Lib.hid (by
      have hM := HM.out
      rcases hc3 with ⟨-, x1, rfl, x2, rfl⟩ | ⟨-, x1, rfl, x2, rfl⟩ | ⟨x1, _⟩
      · rcases hc4 with ⟨-, y1, rfl, y2, rfl⟩ | ⟨-, y1, rfl, y2, rfl⟩ | ⟨y1, _⟩
        · exact .inl ⟨rfl, by omega, by omega, x2, y2⟩
        · exact .inr ⟨rfl, by rw [HS2.out, if_neg (by omega), if_pos (by omega)]⟩
        · exact absurd rfl y1
      · rcases hc4 with ⟨y1, _⟩ | ⟨y1, _⟩ | ⟨-, rfl, _⟩
        · exact absurd y1 (by decide)
        · exact absurd y1 (by decide)
        · exact .inr ⟨rfl, by rw [HS2.out, if_pos (by omega)]⟩
      · exact absurd rfl x1)
    clear hc3 hc4
    rcases HC.out with ⟨rfl, hq3, rfl, hlae, hkie⟩ | ⟨rfl, hin⟩
    rotate_left
    · have HF := Lib.hid (HDONE.out w4 q2 o 55 ob (by rw [hin]) (by rw [hin]) (fun h => absurd h (by decide)) H4.out K4.out)
      clear HS2 HC HDONE hin
      go_wp2_with fail
      go_ret
      exact HF.out
    have HS3 := Lib.hid (HS2.out.trans (by rw [if_neg (by omega), if_neg (by omega)]))
    rw [← hlae, ← hkie] at HS3
    have HQ3 : Hid (q + 3 ≤ 8 * bs.length) := Lib.hid hq3
    clear HS2 HC hlae hkie hq3
    have HBL : Hid (blockF bs most ki o (q + 3) = if ki = 0 then storedF bs most o (q + 3)
      else if ki = 1 then symF fixLit fixDist bs most (8 * bs.length + 1) o (q + 3)
      else if ki = 2 then
        if codesE (headF bs (q + 3)) ≠ 0 then (o, 0, codesE (headF bs (q + 3)))
        else symF (headF bs (q + 3)).1 (headF bs (q + 3)).2.1 bs most (8 * bs.length + 1) o (q + 3 + (headF bs (q + 3)).2.2.1)
      else (o, 0, 50)) := Lib.hid rfl
    obtain ⟨br, hbr⟩ : ∃ br, br = blockF bs most ki o (q + 3) := ⟨_, rfl⟩
    have HP : Hid (br.2.2 = 0 → q + 3 ≤ br.2.1 ∧ br.2.1 ≤ 8 * bs.length) := Lib.hid (fun h => by rw [hbr] at h ⊢; exact blockF_pos bs most ki o (q + 3) HQ3.out h)
    rw [← hbr] at HBL HS3
    clear hbr
    have HREL : Hid (∀ (wx : World) (q' : Nat) (ob2 : Option Nat), Hid (br.2.2 = 0 → q' = br.2.1) → Hid (RD wx g B M cB bs q' br.1 most br.2.2 ob2) → Hid (FR g none ob2 w2 wx) → ∃ (kk q9 : Nat) (o9 : List Int) (e9 : Int) (ob9 : Option Nat), kk < f + 1 + 1 ∧
        Hid ((la = 0 ∧ e9 = 0 ∧ 8 * bs.length - q9 + 1 < kk ∧ q9 ≤ 8 * bs.length ∧ inflF bs most = blksF bs most (kk - 1) o9 q9) ∨
      ((la ≠ 0 ∨ e9 ≠ 0) ∧ 0 < kk ∧ (inflF bs most).1 = o9 ∧ (inflF bs most).2.2 = e9 ∧ (e9 = 0 → q9 = (inflF bs most).2.1))) ∧ Hid (RD wx g B M cB bs q9 o9 most e9 ob9) ∧ Hid (FR g none ob9 w2 wx)) := Lib.hid (fun wx q' ob2 HQ' H5 K5 => by
      obtain ⟨o3, p3, er⟩ := br
      have hs3 := HS3.out
      simp only [] at HQ' H5 HP hs3
      by_cases her : er = 0
      · subst her
        obtain ⟨a1, a2⟩ := HP.out rfl
        obtain rfl := HQ'.out rfl
        rw [if_neg (by simp)] at hs3
        by_cases hla : la = 0
        · rw [if_pos hla] at hs3
          exact ⟨f + 1, q', o3, 0, ob2, by omega, Lib.hid (.inl ⟨hla, rfl, by omega, a2, by rw [show f + 1 - 1 = f by omega]; exact hs3⟩), H5, K5⟩
        · rw [if_neg hla] at hs3
          exact ⟨1, q', o3, 0, ob2, by omega, Lib.hid (.inr ⟨.inl hla, by omega, by rw [hs3], by rw [hs3], fun _ => by rw [hs3]⟩), H5, K5⟩
      · rw [if_pos her] at hs3
        exact ⟨1, q', o3, er, ob2, by omega, Lib.hid (.inr ⟨.inr her, by omega, by rw [hs3], by rw [hs3], fun h => absurd h her⟩), H5, K5⟩)
    clear HS3 HP HDONE
    by_cases h0 : ki = 0
    · subst h0
      have HB0 := Lib.hid (HBL.out.trans (if_pos rfl))
      clear HBL
      go_wp2_with fail
      clear c4 f4
      refine (rstored_calls w4 g B M cB bs (q + 3) o most ob H4.out).mono ?_
      rintro _ w5 ⟨q', ob2, rfl, h5, k5, hq5⟩
      rw [← HB0.out] at h5 hq5
      have H5 := Lib.hid h5
      have K5 := Lib.hid (K4.out.trans k5)
      have HQ5 := Lib.hid hq5
      clear h5 k5 hq5 H4 K4 HB0
      obtain ⟨kk, q9, o9, e9, ob9, hkk, r1, r2, r3⟩ := HREL.out _ _ ob2 (HQ5) (H5) (K5)
      clear HREL
      go_wp2_with fail
      go_roundg kk
      case measure => exact hkk
      case rel => exact ⟨la, q9, o9, e9, ob9, rfl, r1, r2, r3⟩
    have e0 : (ki == 0) = false := by simpa using h0
    by_cases h1 : ki = 1
    · subst h1
      have HB0 := Lib.hid (HBL.out.trans ((if_neg (by decide)).trans (if_pos rfl)))
      clear HBL
      go_wp2_with fail
      clear c4 f4
      refine (rfixed_calls w4).mono ?_
      rintro _ w5 ⟨v1, v2, rfl, ho1, ho2, hb5⟩
      have hk5 := Keeps.of_below hb5 (S := [])
      have H5 := Lib.hid (H4.out.keeps hk5)
      have K5 := Lib.hid (K4.out.trans (FR.of_nil hk5))
      obtain ⟨A1, c1, rfl, hri1, -, -⟩ := own_ri ho1
      obtain ⟨A2, c2, rfl, hri2, -, hlo2⟩ := own_ri ho2
      have HR1 := Lib.hid hri1
      have HR2 := Lib.hid hri2
      have HA2 : Hid (∀ a, A2 = some a → a.block ≠ g ∧ ob ≠ some a.block ∧ a.block < w5.heap.size) := Lib.hid (fun a ha => by
        have h1 := (hlo2 a ha).1
        have h2 := H4.out.lt
        exact ⟨by omega, fun h => by have := (H4.out.oblo _ h).2; omega, (hlo2 a ha).2.1⟩)
      clear ho1 ho2 hb5 hk5 hri1 hri2 hlo2 H4 K4
      go_wp2_with fail
      refine (rsymbols_calls w5 g B M cB bs (q + 3) o most ob fixLit fixDist A1 A2 288 32 c1 c2 H5.out HR1.out HR2.out (by omega) (by omega) fix_info.1 (fun _ => fix_info.2.1) fix_ok HA2.out).mono ?_
      rintro _ w6 ⟨q', ob2, rfl, h6, k6, hq6⟩
      rw [← HB0.out] at h6 hq6
      have H6 := Lib.hid h6
      have K6 := Lib.hid (K5.out.trans k6)
      have HQ6 := Lib.hid hq6
      clear h6 k6 hq6 H5 K5 HB0 HR1 HR2 HA2
      obtain ⟨kk, q9, o9, e9, ob9, hkk, r1, r2, r3⟩ := HREL.out _ _ ob2 (HQ6) (H6) (K6)
      clear HREL
      go_wp2_with fail
      go_roundg kk
      case measure => exact hkk
      case rel => exact ⟨la, q9, o9, e9, ob9, rfl, r1, r2, r3⟩
    have e1 : (ki == 1) = false := by simpa using h1
    by_cases h2 : ki = 2
    · subst h2
      have HB0 := Lib.hid (HBL.out.trans ((if_neg (by decide)).trans ((if_neg (by decide)).trans (if_pos rfl))))
      clear HBL
      go_wp2_with fail
      clear c4 f4
      refine (rhead_calls w4 g B M cB bs (q + 3) o most ob H4.out).mono ?_
      rintro _ w5 ⟨q5, v1, v2, rfl, h5, k5, hgood⟩
      have hfull := @head_full bs (q + 3)
      have hl1 := litF_le bs (q + 3)
      have hl2 := distF_le bs (q + 3)
      have hoks := (head_lenOk bs (q + 3)).2
      have K5 := Lib.hid (K4.out.trans (FR.of_keeps k5))
      by_cases hce : codesE (headF bs (q + 3)) ≠ 0
      · have H5 := Lib.hid h5
        have HB1 := Lib.hid (HB0.out.trans (if_pos hce))
        have HCE := Lib.hid hce
        generalize codesE (headF bs (q + 3)) = ce at *
        clear h5 k5 hgood hfull hoks HB0 hce H4 K4
        go_wp2_with fail
        refine (rsymbols_bad w5 g B M cB bs q5 o most ce ob v1 v2 H5.out HCE.out).mono ?_
        rintro _ w6 ⟨rfl, h6, k6⟩
        have H6 := Lib.hid h6
        have K6 := Lib.hid (K5.out.trans (FR.of_nil k6))
        clear h6 k6 H5 K5
        obtain ⟨kk, q9, o9, e9, ob9, hkk, r1, r2, r3⟩ := HREL.out _ q5 ob (Lib.hid (fun h => by rw [HB1.out] at h; exact absurd h HCE.out)) (by rw [HB1.out]; exact H6) (K6)
        clear HREL
        go_wp2_with fail
        go_roundg kk
        case measure => exact hkk
        case rel => exact ⟨la, q9, o9, e9, ob9, rfl, r1, r2, r3⟩
      · replace hce : codesE (headF bs (q + 3)) = 0 := Classical.not_not.1 hce
        have HB1 := Lib.hid (HB0.out.trans (if_neg (by rw [hce]; simp)))
        obtain ⟨hz, hck1, hck2⟩ := codesE_ok hce
        obtain ⟨hf1, hf2⟩ := hfull hz
        obtain ⟨rfl, A1, c1, A2, c2, rfl, rfl, hri1, hri2, hlo2⟩ := hgood hce
        rw [hce] at h5
        have H5 := Lib.hid h5
        have HR1 := Lib.hid hri1
        have HR2 := Lib.hid hri2
        have HCK1 := Lib.hid hck1
        have HCK2 := Lib.hid hck2
        have HOKS := Lib.hid (lenOk_all hoks)
        have HA2 : Hid (∀ a, A2 = some a → a.block ≠ g ∧ ob ≠ some a.block ∧ a.block < w5.heap.size) := Lib.hid (fun a ha => by
          have h1 := (hlo2 a ha).1
          have h2 := H4.out.lt
          exact ⟨by omega, fun h => by have := (H4.out.oblo _ h).2; omega, (hlo2 a ha).2⟩)
        have b1 : (headF bs (q + 3)).1.length ≤ 288 := by omega
        have b3 : (headF bs (q + 3)).2.1.length ≤ 288 := by omega
        clear h5 k5 hgood hfull hoks HB0 hce hz hck1 hck2 hf1 hf2 hri1 hri2 hlo2 H4 K4
        generalize headF bs (q + 3) = hd at *
        obtain ⟨L1, L2, nn, er0⟩ := hd
        simp only [] at H5 HR1 HR2 HCK1 HCK2 HOKS b1 b3 HB1 ⊢
        obtain ⟨n1, hn1⟩ : ∃ n, n = L1.length := ⟨_, rfl⟩
        obtain ⟨n2, hn2⟩ : ∃ n, n = L2.length := ⟨_, rfl⟩
        rw [← hn1] at b1 HR1 ⊢
        rw [← hn2] at b3 HR2 ⊢
        clear hn1 hn2
        go_wp2_with fail
        refine (rsymbols_calls w5 g B M cB bs (q + 3 + nn) o most ob L1 L2 A1 A2 n1 n2 c1 c2 H5.out HR1.out HR2.out b1 b3 HCK1.out HCK2.out HOKS.out HA2.out).mono ?_
        rintro _ w6 ⟨q', ob2, rfl, h6, k6, hq6⟩
        rw [← HB1.out] at h6 hq6
        have H6 := Lib.hid h6
        have K6 := Lib.hid (K5.out.trans k6)
        have HQ6 := Lib.hid hq6
        clear h6 k6 hq6 H5 K5 HB1 HR1 HR2 HA2
        obtain ⟨kk, q9, o9, e9, ob9, hkk, r1, r2, r3⟩ := HREL.out _ _ ob2 (HQ6) (H6) (K6)
        clear HREL
        go_wp2_with fail
        go_roundg kk
        case measure => exact hkk
        case rel => exact ⟨la, q9, o9, e9, ob9, rfl, r1, r2, r3⟩
    · obtain rfl : ki = 3 := by omega
      have HB0 := Lib.hid (HBL.out.trans ((if_neg (by decide)).trans ((if_neg (by decide)).trans (if_neg (by decide)))))
      have HX := Lib.hid (H4.out.wrong 50)
      have KX := Lib.hid (K4.out.trans (FR.of_keeps (keepsCell w4 g 4 (.int .i64 50))))
      clear HBL
      obtain ⟨kk, q9, o9, e9, ob9, hkk, r1, r2, r3⟩ := HREL.out _ (q + 3) ob (Lib.hid (fun h => by rw [HB0.out] at h; exact absurd h (show ¬ (50 : Int) = 0 by decide))) (by rw [HB0.out]; exact HX) (KX)
      clear HREL
      go_wp2_with fail
      go_roundg kk
      case measure => exact hkk
      case rel => exact ⟨la, q9, o9, e9, ob9, rfl, r1, r2, r3⟩
/-- What the reference's answer is. -/
def RInfP (w : World) (r : List Int × Nat × Int) (e : Ending) (w' : World) : Prop := ∃ B2 c2, e = .returned (.tuple #[.slice B2 r.1.length c2, .int .i64 (r.2.1 : Nat), .int .i64 r.2.2]) ∧ RI .u8 w' B2 r.1.length r.1 ∧ (∀ a, B2 = some a → w.heap.size ≤ a.block) ∧ Keeps [] w w'
set_option maxRecDepth 100000 in
set_option maxHeartbeats 1000000 in
theorem rinflate_calls (w : World) (A : Option Addr) (n c : Nat) (bs : List Int) (most : Int) (hr : RI .u8 w A n bs) (hbyte : ∀ j, 0 ≤ nth bs j ∧ nth bs j ≤ 255) (hn : n ≤ 1000000) :
    Calls Tryd.prog 30 #[.slice A n c, .int .i64 most] w (RInfP w (inflR bs most)) := by
  have HR := Lib.hid hr
  have HBY := Lib.hid hbyte
  have HRL := Lib.hid hr.len
  clear hr hbyte
  have hnil : ∀ w : World, RI .u8 w none 0 [] := fun w => ⟨rfl, by omega, by simp⟩
  have HNIL := Lib.hid hnil
  clear hnil
  go_enter Tryd.func30, Tryd.ntmps30
  by_cases h0 : most < 0
  · have e0 : decide (most < 0) = true := by simpa using h0
    have HE : Hid (inflR bs most = ([], 0, 1)) := Lib.hid (by unfold inflR; rw [if_pos (.inl h0)])
    clear h0
    go_wp2_with fail
    go_ret3
    rw [HE.out]
    exact ⟨_, _, rfl, HNIL.out _, (fun a ha => by cases ha), Keeps.refl _ _⟩
  have e0 : decide (most < 0) = false := by simpa using h0
  by_cases h1 : 16384 < most
  · have e1 : decide (16384 < most) = true := by simpa using h1
    have HE : Hid (inflR bs most = ([], 0, 1)) := Lib.hid (by unfold inflR; rw [if_pos (.inr h1)])
    clear h1
    go_wp2_with fail
    go_ret3
    rw [HE.out]
    exact ⟨_, _, rfl, HNIL.out _, (fun a ha => by cases ha), Keeps.refl _ _⟩
  have e1 : decide (16384 < most) = false := by simpa using h1
  obtain ⟨m, rfl⟩ := Int.eq_ofNat_of_zero_le (show 0 ≤ most by omega)
  have hm : m ≤ 16384 := by omega
  have HE : Hid (inflR bs (m : Nat) = if (inflF bs m).2.2 ≠ 0 then ([], 0, (inflF bs m).2.2) else ((inflF bs m).1, ((inflF bs m).2.1 + 7) / 8, 0)) := Lib.hid (by unfold inflR; rw [if_neg (by omega), Int.toNat_natCast])
  change Code.wp _ _ _ _ _
  go_wp2_with fail
  refine (rread_calls w A n c bs m HR.out HBY.out hn hm).mono ?_
  rintro _ w1 ⟨g, B, M, cB, q, ob, rfl, hi, hq, hg, hk⟩
  have HI := Lib.hid hi
  have HK := Lib.hid hk
  have HPOS := Lib.hid (fun h => inflF_pos bs m h)
  clear hk HR HBY h0 h1 e0 e1
  generalize inflF bs m = ir at *
  obtain ⟨o3, p3, er⟩ := ir
  simp only [] at HE HPOS hi hq HI ⊢
  obtain ⟨-, k1, -, k4, -⟩ := hi.cells
  obtain ⟨vv, hbx, hox, -⟩ := hi.box
  obtain ⟨A2, c2, rfl, hri, -, hlo⟩ := own_ri hox
  have k2 := hbx.cell 2
  simp only [List.getElem?_cons_zero, List.getElem?_cons_succ] at k2
  have HRI := Lib.hid hri
  have HLO : Hid (∀ a, A2 = some a → w.heap.size ≤ a.block) := Lib.hid (fun a ha => by have := (hlo a ha).1; omega)
  clear hbx hox hlo
  by_cases her : er = 0
  · subst her
    obtain rfl := hq rfl
    have HE1 := Lib.hid (HE.out.trans (if_neg (by simp)))
    have hp := HPOS.out rfl
    have hrl := HRL.out
    obtain ⟨Q, hQ⟩ : ∃ Q, Q = (q + 7) / 8 := ⟨_, rfl⟩
    rw [← hQ] at HE1
    have s1 : IntKind.i64.wrap ((q : Int) + 7) = (q : Int) + 7 := IntWalk.i64_in _ (by omega)
    have s2 : ((q : Int) + 7).tdiv 8 = (Q : Int) := by rw [Int.tdiv_eq_ediv_of_nonneg (by omega)]; omega
    have s3 : IntKind.i64.wrap (Q : Int) = Q := IntWalk.i64_in _ (by omega)
    clear HE hq hi HI HPOS hrl hQ hri
    go_wp2_with fail
    go_quiet (fail)
    go_wp2_with fail
    go_ret3
    rw [HE1.out]
    exact ⟨_, _, rfl, HRI.out.keeps ((Keeps.refl [] w1).drewN _) (off_nil _), HLO.out, HK.out.drewN _⟩
  · have HE1 := Lib.hid (HE.out.trans (if_pos her))
    have e2 : (er != 0) = true := by simpa using her
    clear HE hq hi HI HPOS her k2 hri
    go_wp2_with fail
    go_quiet (fail)
    go_wp2_with fail
    go_ret3
    rw [HE1.out]
    exact ⟨_, _, rfl, HNIL.out _, (fun a ha => by cases ha), HK.out.drewN _⟩
end Go.Proofs.YtkpabdjniiepkaaDoor

set_option linter.unusedVariables false
set_option linter.unusedSimpArgs false
namespace Go.Proofs.YtkpabdjniiepkaaDoor
open Go.RowKit
set_option maxHeartbeats 400000 in
theorem keepBytes_calls (w : World) (A B : Option Addr) (n m c d : Nat) (xs ys : List Int) (hx : RI .u8 w A n xs) (hy : RI .u8 w B m ys) (hn : n ≤ 140737488355328) (hm : m ≤ 140737488355328) :
    Calls Tryd.prog 12 #[.slice A n c, .slice B m d] w fun e w' => e = .returned (.bool (xs == ys)) ∧ Dr w w' := by
  have lx := hx.len
  have ly := hy.len
  by_cases hnm : n = m
  · subst hnm
    have t0 : ((n : Int) != (n : Int)) = false := by simp
    go_enter Tryd.func12, Tryd.ntmps12
    go_wp2
    clear t0
    have HX := Lib.hid hx
    have HY := Lib.hid hy
    have LX := Lib.hid lx
    have LY := Lib.hid ly
    clear hx hy lx ly
    go_loopw [5] (fun i wr => ∃ k : Nat, k ≤ n ∧ i = .int .i64 k ∧ Hid (∀ j, j < k → nth xs j = nth ys j) ∧ Hid (Dr w wr)) (fun i _ => n - (intOf i).toNat)
    case atStart => exact ⟨0, by omega, rfl, fun j hj => by omega, Dr.refl _⟩
    case round =>
      obtain ⟨k, hk, rfl, HE, HW⟩ := hrel
      obtain ⟨q, rfl⟩ := HW.out
      clear HW
      by_cases hlt : k < n
      · obtain ⟨a, o, rfl, ha⟩ := HX.out.at hlt
        obtain ⟨b, o', rfl, hb⟩ := HY.out.at hlt
        by_cases hv : nth xs k = nth ys k
        · have t1 : (nth xs k != nth ys k) = false := by simpa using hv
          have HV := Lib.hid hv
          clear hv
          go_wp2
          go_quiet (fail)
          go_wp2
          go_roundw
          case rel => exact ⟨k + 1, by omega, by go_num, eq_snoc HE.out HV.out, ⟨_, rfl⟩⟩
          case measure => simp [intOf]; omega
        · have t1 : (nth xs k != nth ys k) = true := by simpa using hv
          have HV := Lib.hid hv
          clear hv
          go_wp2
          go_quiet (fail)
          go_wp2
          go_ret
          rw [beq_of_ne xs ys k HV.out]
          exact ⟨rfl, Dr.step ⟨_, rfl⟩ _⟩
      · go_wp2
        go_ret
        rw [beq_of_getD xs ys n LX.out LY.out (fun j hj => HE.out j (by omega))]
        exact ⟨rfl, _, rfl⟩
  · have t0 : ((n : Int) != (m : Int)) = true := by simp; omega
    go_enter Tryd.func12, Tryd.ntmps12
    go_wp2
    go_ret
    rw [beq_of_len xs ys (by omega)]
    exact ⟨rfl, 0, rfl⟩
end Go.Proofs.YtkpabdjniiepkaaDoor

set_option linter.unusedVariables false
set_option linter.unusedSimpArgs false
namespace Go.Proofs.YtkpabdjniiepkaaDoor
open Go.RowKit
/-- Bytes that are lent: two marks behind them. -/
def Lent8 (w : World) (g : Nat) (xs : List Int) : Prop := Blk w g 5 (ints .u8 (xs ++ [165, 90]))
theorem Lent8.ri {w : World} {g : Nat} {xs : List Int} (h : Lent8 w g xs) : RI .u8 w (some ⟨g, 0, none⟩) xs.length xs := Blk.ri h
set_option maxRecDepth 100000 in
set_option maxHeartbeats 1000000 in
theorem lend_calls (w : World) (A : Option Addr) (n c : Nat) (xs : List Int) (hr : RI .u8 w A n xs) (hn : n ≤ 100000000) :
    Calls Tryd.prog 8 #[.slice A n c] w fun e w' => ∃ g, e = .returned (.slice (some ⟨g, 0, none⟩) n (n + 2)) ∧ Lent8 w' g xs ∧ w.heap.size ≤ g ∧ Below w.heap.size w w' := by
  have HX := Lib.hid hr
  have LX := Lib.hid hr.len
  clear hr
  have hmk := fun w => make_ints (P := Tryd.prog) w 22 5 .u8 1 Tryd.underlying22 info_u8 ((n : Int) + 2) (n + 2) (by omega) (by omega) (by omega)
  have hcap : CapOk (some ⟨w.heap.size, 0, none⟩) (n + 2) (n + 2) := ⟨Nat.le_refl _, by unfold maxLen; omega, fun _ => ⟨_, _, rfl⟩⟩
  have hsl := fun w' => slice_to8 w' (some ⟨w.heap.size, 0, none⟩) (n + 2) (n + 2) n n rfl (by omega) hcap
  go_enter Tryd.func8, Tryd.ntmps8
  go_wp2_with (with_reducible refine wpList_copy_splice rfl (.tmp 8) (.tmp 9) _ _ rfl 5 Tryd.underlying22 size_u8b _ _ _ _ _ _ rfl rfl w.heap.size 0 (ints .u8 (List.replicate (n + 2) 0)) 5 ?h1 (ints .u8 xs) ?h2 ?h3 ?h4 ?h5 w.heap.size w ?h6 (Nat.le_refl _) ?_)
  case h1 => first | exact blk_new w _ _ | exact (Array.getElem?_eq_some_iff.1 (blk_new w 5 (ints .u8 (List.replicate (n + 2) 0)))).2
  case h2 => have := LX.out; simp [ints]; omega
  case h3 =>
    intro hp
    obtain ⟨a, o, ha⟩ := HX.out.hd (by have := LX.out; simpa [ints, this] using hp)
    refine ⟨_, ha, fun j v hv => ?_⟩
    have hj : j < n := by have := LX.out; have := (List.getElem?_eq_some_iff.1 hv).1; simp [ints] at this; omega
    have hc := HX.out.cell a o ha j hj
    have e : (ints .u8 xs)[j]? = some (.int .u8 (nth xs j)) := by rw [ints_getElem?]; simp [nth, List.getD, show j < xs.length from by have := LX.out; omega]
    rw [e] at hv
    rw [← Option.some.inj hv, add_plain2]
    exact (Keeps.refl [] w).alloc _ |>.cell (by simp) hc
  case h4 => have := LX.out; simp [ints]; omega
  case h5 => intro v hv; simp only [ints, List.mem_map] at hv; obtain ⟨x, _, rfl⟩ := hv; rfl
  case h6 => exact (Below.refl _ _).alloc (Nat.le_refl _) _
  intro w1 hg1 hb1
  have hB : Blk w1 w.heap.size 5 (splice (ints .u8 (List.replicate (n + 2) 0)) 0 (ints .u8 xs)) := hg1.out
  have hsp : splice (ints .u8 (List.replicate (n + 2) 0)) 0 (ints .u8 xs) = ints .u8 (xs ++ [0, 0]) := by
    have h1 := LX.out
    have h2 : List.replicate (n + 2) (0 : Int) = List.replicate n 0 ++ [0, 0] := by rw [show [(0 : Int), 0] = List.replicate 2 0 from rfl, List.replicate_append_replicate]
    simp [splice, ints, h1]
  rw [hsp] at hB
  have HB := Lib.hid hB
  have HB1 := Lib.hid hb1
  have hln : (xs ++ [(0 : Int), 0]).length = n + 2 := by rw [List.length_append, LX.out]; rfl
  have k1 : w1.cell? ⟨w.heap.size, n, none⟩ = some (.int .u8 (nth (xs ++ [0, 0]) n)) := hB.cellI (j := n) (by omega)
  have k2 : w1.cell? ⟨w.heap.size, n + 1, none⟩ = some (.int .u8 (nth (xs ++ [0, 0]) (n + 1))) := hB.cellI (j := n + 1) (by omega)
  have f1 := hB.frozen n
  have f2 := hB.frozen (n + 1)
  generalize nth (xs ++ [0, 0]) n = y1 at *
  generalize nth (xs ++ [0, 0]) (n + 1) = y2 at *
  clear hg1 hsp hB hmk hb1 hln
  go_wp2
  go_ret
  have hs := (HB.out.set n (.int .u8 165)).set (n + 1) (.int .u8 90)
  rw [set_ints, set_ints] at hs
  have hx : ((xs ++ [(0 : Int), 0]).set n 165).set (n + 1) 90 = xs ++ [165, 90] := by
    have := LX.out
    subst this
    rw [List.set_append_right _ _ (Nat.le_refl _), List.set_append_right _ _ (by omega)]
    simp
  rw [hx] at hs
  exact ⟨_, rfl, hs, Nat.le_refl _, (HB1.out.setCell (p := ⟨w.heap.size, n, none⟩) (Nat.le_refl _) _).setCell (p := ⟨w.heap.size, n + 1, none⟩) (Nat.le_refl _) _⟩
/-- A block of bytes, whatever they are. -/
def Any8 (w : World) (g m : Nat) : Prop := ∃ zs : List Int, zs.length = m ∧ Blk w g 5 (ints .u8 zs)
set_option maxRecDepth 100000 in
set_option maxHeartbeats 2000000 in
theorem back_keep_calls (w : World) (g : Nat) (B : Option Addr) (n c : Nat) (xs : List Int) (h : Lent8 w g xs) (hl : xs.length = n) (hr : RI .u8 w B n xs) (hn : n ≤ 100000000) :
    Calls Tryd.prog 10 #[.slice (some ⟨g, 0, none⟩) n (n + 2), .slice B n c] w fun e w' => e = .returned (.bool true) ∧ Keeps [g] w w' := by
  have HL := Lib.hid h
  have HR := Lib.hid hr
  have HLN := Lib.hid hl
  have hln : (xs ++ [(165 : Int), 90]).length = n + 2 := by rw [List.length_append, hl]; rfl
  have k1 : w.cell? ⟨g, n, none⟩ = some (.int .u8 165) := by
    have := Blk.cellI h (j := n) (by omega)
    rwa [show nth (xs ++ [165, 90]) n = 165 by have := nth_append_right xs [165, 90] 0; rw [Nat.add_zero, hl] at this; rw [this]; rfl] at this
  have k2 : w.cell? ⟨g, n + 1, none⟩ = some (.int .u8 90) := by
    have := Blk.cellI h (j := n + 1) (by omega)
    rwa [show nth (xs ++ [165, 90]) (n + 1) = 90 by have := nth_append_right xs [165, 90] 1; rw [hl] at this; rw [this]; rfl] at this
  have hcap : CapOk (some ⟨g, 0, none⟩) (n + 2) (n + 2) := ⟨Nat.le_refl _, by unfold maxLen; omega, fun _ => ⟨_, _, rfl⟩⟩
  have hsl : ∀ w', (Instr.slice 22 (.slice (some ⟨g, 0, none⟩) n (n + 2)) none (some (.int .i64 ((n : Int) + 2))) none).run Tryd.prog w' = .ok (.slice (some ⟨g, 0, none⟩) (n + 2) (n + 2)) w' := fun w' => by
    rw [run_slice_h w' 22 (some ⟨g, 0, none⟩) n (n + 2) (by kernel_rfl) .i64 ((n : Int) + 2) (by omega) (by omega)]
    have hs : (sizeOf (Tryd.prog.elem 22)).run Tryd.prog w' = .ok 1 w' := by kernel_rfl
    rw [hs]
    simp [Result.andThen, sliced, add_plain2]
    omega
  clear h hr hl hcap
  go_enter Tryd.func10, Tryd.ntmps10
  go_wp2_with fail
  clear k1 k2 hsl hln
  go_loopw [6, 7] (fun ov iv wr => ∃ k : Nat, k ≤ n ∧ iv = .int .i64 k ∧ ov = .bool true ∧ Hid (Dr w wr)) (fun _ iv _ => n - (intOf iv).toNat)
  case atStart => exact ⟨0, by omega, rfl, rfl, Lib.hid (Dr.refl w)⟩
  case round =>
    obtain ⟨k, hk, rfl, rfl, HD⟩ := hrel
    obtain ⟨q, rfl⟩ := HD.out
    clear HD
    by_cases hlt : k < n
    · have e1 : decide (k < n) = true := by simpa using hlt
      obtain ⟨b, o, rfl, hc1⟩ := HR.out.at hlt
      have hc2 := Blk.cellI HL.out (j := k) (by rw [List.length_append, HLN.out]; simp; omega)
      rw [nth_append_left _ _ _ (by rw [HLN.out]; exact hlt)] at hc2
      have t1 : (nth xs k == nth xs k) = true := by simp
      have t2 : k < n + 2 := by omega
      go_wp2
      go_quiet (fail)
      go_wp2
      go_roundw
      case rel => exact ⟨k + 1, by omega, by go_num, rfl, Lib.hid ⟨_, rfl⟩⟩
      case measure => simp [intOf]; omega
    · obtain rfl : k = n := by omega
      have e1 : decide (k < k) = false := by simp
      obtain ⟨wo, hwo⟩ : ∃ wo : World, wo = w.drewN q := ⟨_, rfl⟩
      have HK0 : Hid (Keeps [g] w wo) := Lib.hid (by rw [hwo]; exact (Keeps.refl [g] w).drewN q)
      have HA0 : Hid (Any8 wo g (k + 2)) := Lib.hid ⟨xs ++ [165, 90], by rw [List.length_append, HLN.out]; rfl, by rw [hwo]; exact HL.out⟩
      rw [← hwo]
      clear hwo HL HR
      go_wp2_with fail
      go_loopw [8] (fun iv wr => ∃ i : Nat, i ≤ k + 2 ∧ iv = .int .i64 i ∧ Hid (Any8 wr g (k + 2)) ∧ Hid (Keeps [g] w wr)) (fun iv _ => k + 2 - (intOf iv).toNat)
      case atStart => exact ⟨0, by omega, rfl, HA0, HK0⟩
      case round =>
        clear HA0 HK0
        obtain ⟨i, hi, rfl, HA, HK⟩ := hrel
        obtain ⟨zs, hz, hblk⟩ := HA.out
        by_cases hlt2 : i < k + 2
        · have e2 : decide (i < k + 2) = true := by simpa using hlt2
          have e2' : decide ((i : Int) < (k : Int) + 2) = true := by simp; omega
          have hc := hblk.cellI (j := i) (by omega)
          have f1 := hblk.frozen i
          have HA' : ∀ y, Hid (Any8 (wr.setCell ⟨g, i, none⟩ (.int .u8 y)) g (k + 2)) := fun y => Lib.hid ⟨zs.set i y, by rw [List.length_set]; exact hz, by have := hblk.set i (.int .u8 y); rwa [set_ints] at this⟩
          have HAH := Lib.hid HA'
          clear hz hblk HA HA'
          generalize nth zs i = z at *
          go_wp2_with fail
          go_roundw
          case rel => exact ⟨i + 1, by omega, by go_num, HAH.out _, Lib.hid (HK.out.setCell (p := ⟨g, i, none⟩) (Or.inl (by simp)) _)⟩
          case measure => simp [intOf]; omega
        · obtain rfl : i = k + 2 := by omega
          have e2 : decide (k + 2 < k + 2) = false := by simp
          have e2' : decide (((k + 2 : Nat) : Int) < (k : Int) + 2) = false := by simp
          clear HA hblk hz
          go_wp2_with fail
          go_ret
          exact ⟨rfl, HK.out⟩
set_option maxRecDepth 100000 in
set_option maxHeartbeats 1000000 in
theorem spoil_calls (w : World) (base : Nat) (A : Option Addr) (n c : Nat) (xs : List Int) (hown : w.ownsRow base 5 1 (.slice A n c) n (ints .u8 xs)) (hU : AllU8 w (.slice A n c)) :
    Calls Tryd.prog 24 #[.slice A n c] w fun e w' => e = .returned (.tuple #[]) ∧ Keeps ((Value.slice A n c).ownBlock.toList) w w' := by
  have hcap := own_cap hown
  obtain ⟨h1, h2⟩ := hown
  rcases h2 with ⟨hv, rfl⟩ | ⟨g, cap, cur, hv, hb, hh, hc, hm, hs, ht⟩
  · injection hv with q1 q2 q3
    subst q1
    subst q3
    have hsl := fun w => slice_to8 w none 0 0 0 0 rfl (by omega) hcap
    clear hcap h1 hU
    go_enter Tryd.func24, Tryd.ntmps24
    go_wp2_with fail
    clear hsl
    go_loopg [2] 1 (fun k iv wr => iv = .int .i64 0 ∧ Hid (wr = w))
    case atStart => exact ⟨rfl, Lib.hid rfl⟩
    case round =>
      obtain ⟨rfl, HW⟩ := hrel
      go_wp2_with fail
      go_end0
      exact ⟨rfl, by rw [HW.out]; exact Keeps.refl _ _⟩
  · injection hv with q1 q2 q3
    subst q1
    subst q3
    obtain ⟨cur', hg', hall⟩ := hU g rfl
    have hcc : cur' = cur := by
      rw [hh] at hg'
      injection hg' with hg'
      injection hg' with hg' _ _
      exact hg'.symm
    subst hcc
    have HA0 : Hid (Any8 w g c) := Lib.hid (by
      refine ⟨cur'.toList.map intOf, by simp; omega, ?_⟩
      have e : ints .u8 (cur'.toList.map intOf) = cur'.toList := by
        unfold ints
        rw [List.map_map]
        conv => rhs; rw [← List.map_id cur'.toList]
        refine List.map_congr_left fun u hu => ?_
        obtain ⟨k, rfl⟩ := hall u hu
        rfl
      show w.heap[g]? = _
      rw [e]
      simpa using hh)
    have hml : c ≤ 9223372036854775807 := by unfold maxLen at hm; omega
    have hsl : ∀ w', (Instr.slice 22 (.slice (some ⟨g, 0, none⟩) n c) none (some (.int .i64 (c : Int))) none).run Tryd.prog w' = .ok (.slice (some ⟨g, 0, none⟩) c c) w' := fun w' => by
      rw [run_slice_h w' 22 (some ⟨g, 0, none⟩) n c (by kernel_rfl) .i64 (c : Int) (by omega) (by omega)]
      have hs : (sizeOf (Tryd.prog.elem 22)).run Tryd.prog w' = .ok 1 w' := by kernel_rfl
      rw [hs]
      by_cases h0 : c = 0
      · subst h0
        simp [Result.andThen, sliced]
      · simp [Result.andThen, sliced, add_plain2]
    clear hcap h1 hU hg' hall hh hb ht hs hm
    go_enter Tryd.func24, Tryd.ntmps24
    go_wp2_with fail
    clear hsl
    go_loopw [2] (fun iv wr => ∃ i : Nat, i ≤ c ∧ iv = .int .i64 i ∧ Hid (Any8 wr g c) ∧ Hid (Keeps [g] w wr)) (fun iv _ => c - (intOf iv).toNat)
    case atStart => exact ⟨0, by omega, rfl, HA0, Lib.hid (Keeps.refl _ _)⟩
    case round =>
      clear HA0
      obtain ⟨i, hi, rfl, HA, HK⟩ := hrel
      obtain ⟨zs, hz, hblk⟩ := HA.out
      by_cases hlt2 : i < c
      · have e2 : decide (i < c) = true := by simpa using hlt2
        have hc := hblk.cellI (j := i) (by omega)
        have f1 := hblk.frozen i
        have HA' : ∀ y, Hid (Any8 (wr.setCell ⟨g, i, none⟩ (.int .u8 y)) g c) := fun y => Lib.hid ⟨zs.set i y, by rw [List.length_set]; exact hz, by have := hblk.set i (.int .u8 y); rwa [set_ints] at this⟩
        have HAH := Lib.hid HA'
        clear hz hblk HA HA'
        generalize nth zs i = z at *
        go_wp2_with fail
        go_roundw
        case rel => exact ⟨i + 1, by omega, by go_num, HAH.out _, Lib.hid (HK.out.setCell (p := ⟨g, i, none⟩) (Or.inl (by simp)) _)⟩
        case measure => simp [intOf]; omega
      · obtain rfl : i = c := by omega
        have e2 : decide (i < i) = false := by simp
        clear HA hblk hz
        go_wp2_with fail
        go_end0
        exact ⟨rfl, HK.out⟩
end Go.Proofs.YtkpabdjniiepkaaDoor

set_option linter.unusedVariables false
set_option linter.unusedSimpArgs false
namespace Go.Proofs.YtkpabdjniiepkaaDoor
open Go.RowKit
theorem by_all {xs : List Int} (h : xs.all (fun x => decide (0 ≤ x) && decide (x ≤ 255)) = true) (j : Nat) : 0 ≤ nth xs j ∧ nth xs j ≤ 255 := by
  by_cases hj : j < xs.length
  · have := List.all_eq_true.1 h (nth xs j) (by rw [nth_lt hj]; exact List.getElem_mem _)
    simpa using this
  · simp [nth, List.getD, List.getElem?_eq_none (Nat.le_of_not_lt hj)]
theorem conv_str {w : World} {A : Option Addr} {n c : Nat} {xs : List Int} (h : RI .u8 w A n xs) (h1 : 0 < n) (s : ByteArray) (hs : strOfNums xs = s) : (convert 22 9 (.slice A n c)).run Tryd.prog w = .ok (.string s) w := by
  subst hs
  obtain ⟨b, o, rfl⟩ := h.hd h1
  exact run_convert_bytes_arg w 22 5 Tryd.underlying22 Tryd.underlying5 b o n c xs h.len (fun i hi => h.cell b o rfl i hi) 9 Tryd.underlying9
theorem lit_bytes (w : World) (xs : List Int) : RI .u8 (w.alloc (.cells (ints .u8 xs).toArray 5)) (some ⟨w.heap.size, 0, none⟩) xs.length xs := by
  have := Blk.ri (xs := xs) (ys := []) (k := .u8) (by simpa using blk_new w 5 (ints .u8 xs))
  exact this
end Go.Proofs.YtkpabdjniiepkaaDoor

set_option linter.unusedVariables false
set_option linter.unusedSimpArgs false
/-! law07.awake. -/
namespace Go.Proofs.YtkpabdjniiepkaaDoor
open Go.RowKit
theorem rt_blk {w : World} {g : Nat} {ts : List Tok} (h : Blk w g 33 (ts.flatMap tcells)) : RT w (some ⟨g, 0, none⟩) ts.length ts :=
  ⟨rfl, fun _ => ⟨_, _, rfl⟩, fun b o ha j hj => by
    injection ha with ha; injection ha with h1 h2 h3; subst h1; subst h2
    obtain ⟨p1, p2, p3⟩ := tcells_get ts j hj
    rw [Nat.zero_add, h.cell, h.cell, h.cell]
    exact ⟨p1, p2, p3⟩⟩
theorem lit_bytesM (w : World) (xs : List Int) (fr : Nat × Nat) : RI .u8 (w.alloc (.cells (ints .u8 xs).toArray 5 fr)) (some ⟨w.heap.size, 0, none⟩) xs.length xs :=
  ⟨rfl, fun _ => ⟨_, _, rfl⟩, fun b o ha j hj => by
    injection ha with ha; injection ha with h1 h2 h3; subst h1; subst h2
    rw [Nat.zero_add, World.cell?_alloc_mark, List.getElem?_toArray, ints_getElem?]
    simp [nth, List.getD, hj]⟩
theorem ri_off {k : IntKind} {w : World} {A : Option Addr} {n : Nat} {xs : List Int} (h : RI k w A n xs) (hn : 0 < n) : ∀ a, A = some a → a.block < w.heap.size := fun a ha => by
  obtain ⟨b, o, rfl⟩ := h.hd hn
  injection ha with ha
  subst ha
  exact World.block_lt_of_cell? _ _ (h.cell b o rfl 0 hn)
theorem Keeps.fresh {T : List Nat} {w w1 w2 : World} (h : Keeps [] w w1) (k : Keeps T w1 w2) (hT : ∀ x ∈ T, w.heap.size ≤ x) : Keeps [] w w2 :=
  ⟨k.os.trans h.os, k.tape.trans h.tape, k.output.trans h.output, Nat.le_trans h.size k.size, fun i hi _ => (k.block i (Nat.lt_of_lt_of_le hi h.size) (fun hm => by have := hT i hm; omega)).trans (h.block i hi (by simp))⟩
theorem storB_byte {b : Int} {data : List Int} (hb : b = 0 ∨ b = 1) (hd : ∀ x ∈ data, 0 ≤ x ∧ x ≤ 255) (hn : data.length ≤ 16384) : ∀ x ∈ storB b data, 0 ≤ x ∧ x ≤ 255 := by
  intro x hx
  unfold storB at hx
  rcases List.mem_append.1 hx with h | h
  · simp only [List.mem_cons, List.not_mem_nil, or_false] at h
    rcases h with rfl | rfl | rfl | rfl | rfl <;> omega
  · exact hd x h
theorem Defl.byte {data xs : List Int} (h : Defl data xs) (hd : ∀ x ∈ data, 0 ≤ x ∧ x ≤ 255) (hn : data.length ≤ 16384) : ∀ x ∈ xs, 0 ≤ x ∧ x ≤ 255 := by
  obtain ⟨f, d, hf, hdy, rfl⟩ := h.out
  have sel : ∀ a b : List Int, (∀ x ∈ a, 0 ≤ x ∧ x ≤ 255) → (∀ x ∈ b, 0 ≤ x ∧ x ≤ 255) → ∀ x ∈ lessL a b, 0 ≤ x ∧ x ≤ 255 := fun a b h1 h2 x hx => by
    unfold lessL at hx
    split at hx
    · exact h2 x hx
    · exact h1 x hx
  exact sel _ _ (sel _ _ (storB_byte (.inr rfl) hd hn) hf.all_u8) hdy.all_u8
theorem Defl.infl {data xs : List Int} (h : Defl data xs) (hd : ∀ x ∈ data, 0 ≤ x ∧ x ≤ 255) (hn : data.length ≤ 16384) {most : Int} (h0 : (data.length : Int) ≤ most) (h1 : most ≤ 16384) : inflR xs most = (data, xs.length, 0) := (h.final hd hn).infl h0 h1
def awT : List Tok := [(97, 0, 0), (0, 6, 1)]
theorem aw_bits : (fixB awT).length = 30 ∧ ∀ i, i < 30 → bitAt [75, 132, 0, 0] i = nth (fixB awT) i := by decide +kernel
theorem aw_wb : WB [75, 132, 0, 0] (fixB awT) := by
  obtain ⟨h1, h2⟩ := aw_bits
  refine ⟨by rw [h1]; rfl, by_all (by decide), fun _ => by rw [h1]; decide, fun i hi => h2 i (by omega)⟩
theorem aw_chk : checkT awT 0 = 0 ∧ checkT [(0, 3, 1)] 0 = 60 ∧ feedD [] 0 [97, 98, 99] = (0, [], [97, 98, 99], 0) ∧ storB 1 [97, 98, 99] = [1, 3, 0, 252, 255, 97, 98, 99] := by decide +kernel
theorem aw_lit : LitOk awT ∧ LitOk [(0, 3, 1)] := by
  constructor <;> (intro t ht; simp [awT] at ht; rcases ht with rfl | rfl <;> simp)
set_option maxRecDepth 100000 in
set_option maxHeartbeats 4000000 in
theorem awake7_calls (w : World) (hT : Tabs w) : Calls Tryd.prog 11 #[] w fun e w' => e = .returned (.bool true) ∧ Keeps [] w w' := by
  have HT := Lib.hid hT
  have HTS := Lib.hid hT.size
  have kc := fun (w : World) (C : Array Value) (n c : Nat) => Lib.run_convert_bytes_const (P := Tryd.prog) w 22 5 C n c Tryd.underlying22 Tryd.underlying5
  have k0 : Keeps [] w (w.alloc (.cells (ints .u8 [97, 98, 99]).toArray 5 (3, 4))) := (Keeps.refl [] w).alloc _
  have HK0 := Lib.hid k0
  have HL0 := Lib.hid (lit_bytesM w [97, 98, 99] (3, 4))
  clear hT k0
  go_enter Tryd.func11, Tryd.ntmps11
  go_wp2_with fail
  refine (dstored_calls (w.alloc (.cells (ints .u8 [97, 98, 99]).toArray 5 (3, 4))) _ 3 3 [97, 98, 99] HL0.out (by simp)).mono ?_
  rintro e w1 (⟨h1, _⟩ | ⟨-, v, rfl, ho, -, hb⟩)
  · omega
  obtain ⟨A1, c1, rfl⟩ := own_formW ho
  have hr1 : RI .u8 w1 A1 (5 + 3) (storB 1 [97, 98, 99]) := by
    obtain ⟨A', c', hv, hr, -⟩ := own_ri ho
    injection hv with q1 q2 q3
    subst q1
    exact hr
  rw [aw_chk.2.2.2] at hr1
  have HK1 := Lib.hid (HK0.out.trans (Keeps.of_below hb))
  have k1 : Keeps [] w1 (w1.alloc (.cells (awT.flatMap tcells).toArray 33)) := (Keeps.refl [] w1).alloc _
  have HR1 := Lib.hid (hr1.keeps k1 (off_nil _))
  have HF := Lib.hid (dfixed_calls (w1.alloc (.cells (awT.flatMap tcells).toArray 33)) (some ⟨w1.heap.size, 0, none⟩) 2 2 awT (rt_blk (blk_new w1 33 (awT.flatMap tcells))) (fun a h => by injection h with h; subst h; simp) aw_lit.1 (by omega))
  have HK2 := Lib.hid (HK1.out.trans k1)
  clear ho hb hr1 k1 HK1 HL0 HK0
  go_wp2_with fail
  refine HF.out.mono ?_
  rintro e w2 (⟨-, g2, n2, c2, ys2, rfl, hr2, -, hwb2, hb2, -⟩ | ⟨h1, _⟩)
  rotate_left
  · exact absurd aw_chk.1 h1
  obtain rfl : ys2 = [75, 132, 0, 0] := hwb2.uniq aw_wb
  have hn2 : 4 = n2 := hr2.len
  subst hn2
  have kk := Keeps.of_below hb2 (S := [])
  have k1 : Keeps [] w2 (w2.alloc (.cells ([((0, 3, 1) : Tok)].flatMap tcells).toArray 33)) := (Keeps.refl [] w2).alloc _
  have R1 := Lib.hid (HR1.out.keeps (kk.trans k1) (off_nil _))
  have R2 := Lib.hid (hr2.keeps k1 (off_nil _))
  have K3 := Lib.hid ((HK2.out.trans kk).trans k1)
  have HF3 := Lib.hid (dfixed_calls (w2.alloc (.cells ([((0, 3, 1) : Tok)].flatMap tcells).toArray 33)) (some ⟨w2.heap.size, 0, none⟩) 1 1 [(0, 3, 1)] (rt_blk (blk_new w2 33 ([((0, 3, 1) : Tok)].flatMap tcells))) (fun a h => by injection h with h; subst h; simp) aw_lit.2 (by omega))
  clear HR1 HK2 HF hr2 hwb2 hb2 kk k1
  go_wp2_with fail
  refine HF3.out.mono ?_
  rintro e w3 (⟨h1, _⟩ | ⟨-, rfl, hb3⟩)
  · rw [aw_chk.2.1] at h1; cases h1
  rw [aw_chk.2.1]
  have kk := Keeps.of_below hb3 (S := [])
  have R13 := Lib.hid (R1.out.keeps kk (off_nil _))
  have R23 := Lib.hid (R2.out.keeps kk (off_nil _))
  have K4 := Lib.hid (K3.out.trans kk)
  clear R1 R2 K3 HF3 hb3 kk
  go_wp2_with fail
  refine (dnew_calls w3).mono ?_
  rintro _ w4 ⟨rfl, hs4, hk4⟩
  have R14 := Lib.hid (R13.out.keeps hk4 (off_nil _))
  have R24 := Lib.hid (R23.out.keeps hk4 (off_nil _))
  have K5 := Lib.hid (K4.out.trans hk4)
  have k5 : Keeps [] w4 (w4.alloc (.cells (ints .u8 [97, 98, 99]).toArray 5 (3, 4))) := (Keeps.refl [] w4).alloc _
  have hws : w.heap.size ≤ w3.heap.size := K4.out.size
  have HA1 := Lib.hid (ri_off R13.out (by omega))
  have HG2 : Hid (g2 < w3.heap.size) := Lib.hid (ri_off R23.out (by omega) ⟨g2, 0, none⟩ rfl)
  have hsw4 : w3.heap.size < w4.heap.size := hs4.lt
  have R15 := Lib.hid (R14.out.keeps k5 (off_nil _))
  have R25 := Lib.hid (R24.out.keeps k5 (off_nil _))
  have K6 := Lib.hid (K5.out.trans k5)
  have HFD := Lib.hid (dfeed_calls (w4.alloc (.cells (ints .u8 [97, 98, 99]).toArray 5 (3, 4))) w3.heap.size 0 [] none (some ⟨w4.heap.size, 0, none⟩) 3 3 [97, 98, 99] (hs4.keeps k5 (by simp) (by simp)) (lit_bytesM w4 [97, 98, 99] (3, 4)) (by simp) (by omega) (by simp))
  clear R13 R23 R14 R24 K4 K5 hs4 hk4 k5
  generalize hs : w3.heap.size = s at *
  go_wp2_with fail
  refine HFD.out.mono ?_
  rintro e w5 ⟨v5, kb, rfl, ho5, -, hs5, hkb, -, hk5⟩
  rw [aw_chk.2.2.1] at ho5 hs5 ⊢
  dsimp only at ho5 hs5 ⊢
  obtain ⟨A5, c5, rfl⟩ := own_formW ho5
  have HO5 := Lib.hid ho5
  have HS5 := Lib.hid hs5
  have hsz5 : w4.heap.size + 1 ≤ w5.heap.size := by have := hk5.size; simpa using this
  have hk5' : Keeps [s] (w4.alloc (.cells (ints .u8 [97, 98, 99]).toArray 5 (3, 4))) w5 := hk5
  have R16 := Lib.hid (R15.out.keeps hk5' (fun a ha hm => by have := HA1.out a ha; simp at hm; omega))
  have R26 := Lib.hid (R25.out.keeps hk5' (fun a ha hm => by have := HG2.out; injection ha with ha; subst ha; simp at hm; omega))
  have K7 := Lib.hid (K6.out.fresh hk5' (by simp; exact hws))
  have hgs : gtop ≤ s := Nat.le_trans HTS.out hws
  clear ho5 hs5 hk5 hk5' HFD R15 R25 K6 hkb
  go_wp2_with fail
  refine (dclose_calls w5 s 0 [97, 98, 99] kb HS5.out (HT.out.keeps K7.out (by simp)) hgs (by_all (by decide)) (by simp)).mono ?_
  rintro _ w6 ⟨g6, m6, c6, ys, rfl, hr6, hg6, hd6, -, hs6, hk6⟩
  have HR6 := Lib.hid hr6
  have HD6 := Lib.hid hd6
  have hm6 : m6 ≤ 8 := by have h1 := hd6.len.1; have h2 := hr6.len; simp at h1; omega
  have HL6 : Hid (ys.length = m6) := Lib.hid hr6.len
  have HS6 := Lib.hid hs6
  have HO6 := Lib.hid (own_keeps HO5.out hk6 (fun g hg hm => by have := own_lo HO5.out g hg; simp at hm this; omega))
  have R17 := Lib.hid (R16.out.keeps hk6 (fun a ha hm => by have := HA1.out a ha; simp at hm; omega))
  have R27 := Lib.hid (R26.out.keeps hk6 (fun a ha hm => by have := HG2.out; injection ha with ha; subst ha; simp at hm; omega))
  have K8 := Lib.hid (K7.out.fresh hk6 (by simp; exact hws))
  have hsz6 := hk6.size
  clear hr6 hd6 hs6 hk6 R16 R26 K7 HS5 HO5
  go_wp2_with fail
  refine (dclose_closed w6 s 0 [97, 98, 99] kb HS6.out).mono ?_
  rintro _ w7 ⟨rfl, hk7⟩
  have HR7 := Lib.hid (HR6.out.keeps hk7 (off_nil _))
  have HO7 := Lib.hid (own_keeps HO6.out hk7 (by simp))
  have R18 := Lib.hid (R17.out.keeps hk7 (off_nil _))
  have R28 := Lib.hid (R27.out.keeps hk7 (off_nil _))
  have K9 := Lib.hid (K8.out.trans hk7)
  have hsz7 := hk7.size
  clear hk7 HR6 HO6 R17 R27 K8 HS6
  go_wp2_with (at_builtin; refine app_bytesB rfl (.tmp 58) (.tmp 59) rfl w4.heap.size (.slice A5 0 c5) 0 [] rfl (by exact own_lower HO7.out (by simp)) (some ⟨g6, 0, none⟩) m6 c6 ys rfl (by exact HR7.out) nofun (by omega) (by omega) ?_)
  intro v8 w8 ho8 hg8 _
  obtain ⟨A8, c8, rfl⟩ := own_formW ho8
  have hr8 : RI .u8 w8 A8 (0 + m6) ys := by
    obtain ⟨A', c', hv, hr, -⟩ := own_ri ho8
    injection hv with q1 q2 q3
    subst q1
    simpa using hr
  rw [Nat.zero_add] at hr8
  have kk : Keeps (Value.slice A5 0 c5).ownBlock.toList w7 w8 := (Keeps.refl _ w7).grown hg8 (fun k hk => .inl (by rw [hk]; simp))
  have hoB : ∀ g, (Value.slice A5 0 c5).ownBlock = some g → w4.heap.size ≤ g := fun g hg => by have := own_lo HO7.out g hg; simp at this; omega
  have R19 := Lib.hid (R18.out.keeps kk (fun a ha hm => by have := HA1.out a ha; have := hoB a.block (by simpa using hm); omega))
  have R29 := Lib.hid (R28.out.keeps kk (fun a ha hm => by have := HG2.out; injection ha with ha; subst ha; have := hoB g2 (by simpa using hm); omega))
  have K10 := Lib.hid (K9.out.fresh kk (fun x hx => by have := hoB x (by simpa using hx); omega))
  have HR8 := Lib.hid hr8
  have HB8 := Lib.hid (nth_u8 (HD6.out.byte (data := [97, 98, 99]) (by intro x hx; simp at hx; rcases hx with rfl | rfl | rfl <;> omega) (by simp)))
  have HIN : Hid (inflR ys 9 = ([97, 98, 99], ys.length, 0)) := Lib.hid (HD6.out.infl (by intro x hx; simp at hx; rcases hx with rfl | rfl | rfl <;> omega) (by simp) (by simp) (by omega))
  clear ho8 hg8 hr8 kk hoB HO7 R18 R28 K9 HR7
  go_wp2_with fail
  refine (rinflate_calls w8 A8 m6 c8 ys 9 HR8.out HB8.out (by omega)).mono ?_
  rintro e w9 ⟨B9, c9, rfl, hr9, -, hk9⟩
  rw [HIN.out] at hr9 ⊢
  dsimp only at hr9 ⊢
  have R110 := Lib.hid (R19.out.keeps hk9 (off_nil _))
  have R210 := Lib.hid (R29.out.keeps hk9 (off_nil _))
  have HR9 := Lib.hid hr9
  have K11 := Lib.hid (K10.out.trans hk9)
  have k11 : Keeps [] w9 (w9.alloc (.cells (ints .u8 [1, 3, 0, 252, 255, 97, 98, 99]).toArray 5)) := (Keeps.refl [] w9).alloc _
  have R111 := Lib.hid (R110.out.keeps k11 (off_nil _))
  have R211 := Lib.hid (R210.out.keeps k11 (off_nil _))
  have HR11 := Lib.hid (HR9.out.keeps k11 (off_nil _))
  have K12 := Lib.hid (K11.out.trans k11)
  have HL9 := Lib.hid (lit_bytes w9 [1, 3, 0, 252, 255, 97, 98, 99])
  clear hr9 hk9 R19 R29 K10 HR8 k11 R110 R210 HR9 K11 HIN HB8
  go_wp2_with fail
  refine (keepBytes_calls (w9.alloc (.cells (ints .u8 [1, 3, 0, 252, 255, 97, 98, 99]).toArray 5)) _ _ 8 8 c1 8 _ _ R111.out HL9.out (by omega) (by omega)).mono ?_
  rintro _ w10 ⟨rfl, hd10⟩
  rw [beq_self_eq_true]
  have hk10 := hd10.keeps (S := [])
  have k12 : Keeps [] w10 (w10.alloc (.cells (ints .u8 [75, 132, 0, 0]).toArray 5)) := (Keeps.refl [] w10).alloc _
  have R212 := Lib.hid (R211.out.keeps (hk10.trans k12) (off_nil _))
  have HR12 := Lib.hid (HR11.out.keeps (hk10.trans k12) (off_nil _))
  have K13 := Lib.hid (K12.out.trans (hk10.trans k12))
  have HL10 := Lib.hid (lit_bytes w10 [75, 132, 0, 0])
  clear hd10 hk10 k12 R111 R211 HR11 K12 HL9
  go_wp2_with fail
  refine (keepBytes_calls (w10.alloc (.cells (ints .u8 [75, 132, 0, 0]).toArray 5)) _ _ 4 4 c2 4 _ _ R212.out HL10.out (by omega) (by omega)).mono ?_
  rintro _ w11 ⟨rfl, hd11⟩
  rw [beq_self_eq_true]
  have hk11 := hd11.keeps (S := [])
  have HR13 := Lib.hid (HR12.out.keeps hk11 (off_nil _))
  have K14 := Lib.hid (K13.out.trans hk11)
  have x1 := conv_str (n := 3) (c := c9) HR13.out (by decide) ⟨#[97, 98, 99]⟩ (by decide)
  clear hd11 hk11 R212 HR12 K13 HL10
  go_wp2_with fail
  go_ret
  exact ⟨rfl, K14.out⟩
end Go.Proofs.YtkpabdjniiepkaaDoor

set_option linter.unusedVariables false
set_option linter.unusedSimpArgs false
namespace Go.Proofs.YtkpabdjniiepkaaDoor
open Go.RowKit
set_option maxRecDepth 100000 in
set_option maxHeartbeats 1000000 in
theorem deflateNil_walk (w : World) (A : Option Addr) (n c : Nat) (bs : List Int) (hT : Tabs w) (hb : RI .u8 w A n bs) (hm : n ≤ maxLen) (hnil : A = none → n = 0 ∧ c = 0) (hwf : ∀ x ∈ bs, (Lit.int .u8 x).wf = true) :
    Calls Tryd.prog 7 #[.slice A n c] w fun e w' => e = .returned (.bool true) ∧ Keeps [] w w' := by
  have HT := Lib.hid hT
  unfold maxLen at hm
  clear hT hb hnil hwf
  go_enter Tryd.func7, Tryd.ntmps7
  by_cases h1 : 65536 < n
  · have e1 : decide (65536 < n) = true := by simpa using h1
    have e1' : decide ((65536 : Int) < (n : Int)) = true := by simp; omega
    go_wp2_with fail
    go_ret
    exact ⟨rfl, Keeps.refl _ _⟩
  have e1 : decide (65536 < n) = false := by simpa using h1
  have e1' : decide ((65536 : Int) < (n : Int)) = false := by simp; omega
  go_wp2_with fail
  refine (dfeed_nil w A n c).mono ?_
  rintro _ w1 ⟨rfl, hk⟩
  have HK1 := Lib.hid hk
  clear hk
  go_wp2_with fail
  refine (dclose_nil w1).mono ?_
  rintro _ w2 ⟨rfl, hk⟩
  have HK2 := Lib.hid (HK1.out.trans hk)
  clear hk HK1
  go_wp2_with fail
  refine (awake7_calls w2 (HT.out.keeps HK2.out (by simp))).mono ?_
  rintro _ w3 ⟨rfl, hk⟩
  have HK3 := Lib.hid (HK2.out.trans hk)
  clear hk HK2
  go_wp2_with fail
  go_ret
  exact ⟨rfl, HK3.out⟩
end Go.Proofs.YtkpabdjniiepkaaDoor

/-
  A stream that is nil answers so, whatever it is fed; of any bytes.
-/
set_option linter.unusedVariables false
set_option linter.unusedSimpArgs false
namespace Go.Proofs.YtkpabdjniiepkaaDoor.deflateNil
open Go.ChangeShapes Go.WideShapes Go.ChangeAt Go.RowKit
set_option maxRecDepth 100000 in
theorem contract (H : Type) (enc : TypeId × Value → H) (W : World) (base : Nat) (args : Array Value) (ds gs : List (DataW H)) (before : List MemPlace)
    (hval : ∀ (j : Nat) t v, Tryd.f7.params[j]? = some t → args[j]? = some v → Value.okWide Tryd.prog W .any base t v)
    (hW : DataW.Whole enc Tryd.prog Tryd.f7.params.toList Rows.deflateNilSpec.vars false W args.toList ds gs before) (hL : laidMetH Tryd.prog Rows.deflateNilRow.laid W) :
    Calls Tryd.prog 7 args W fun e W' => ∃ v, e = .returned v ∧ Rows.deflateNilSpec.post enc Tryd.prog Tryd.f7 false true false false W args v W' := by
  have hT : Tabs W := tabs_of (laidMet.filter (fun x => x.1 == "haversack/lens.order" || x.1 == "haversack/lens.wide" || x.1 == "haversack/lens.from") hL)
  have hW' := hW
  obtain ⟨p, q, hA0, hV, rfl, hfz, hnd⟩ := hW
  have hA : DataW.TrodAll enc Tryd.prog W 0 (fun _ => true) true Tryd.f7.params.toList args.toList ds p := hA0
  rw [Tryd.params7] at hA hval
  obtain ⟨v0, vs0, d0, ds0, p0, q0, hargs, rfl, rfl, h0, r0⟩ := trodAll_cons hA
  obtain ⟨rfl, rfl, rfl⟩ := trodAll_nil r0
  obtain rfl : args = #[v0] := by cases args; simp_all
  obtain ⟨rfl, rfl⟩ := trodVars_none hV
  obtain ⟨a0, len0, cap0, rfl⟩ := okWide_slice Tryd.underlying22 (hval 0 22 v0 rfl rfl)
  have k0 := h0
  have lt0 : ∀ x ∈ p0, x.block < W.heap.size := by obtain ⟨m, hm⟩ := k0; exact DataW.trod_lt m _ _ _ hm
  obtain ⟨z0, w0, m0, n0, y0⟩ := ri_came Tryd.underlying22 Tryd.underlying5 cellsU8 h0
  clear hA0
  refine (deflateNil_walk W a0 len0 cap0 z0 hT w0 m0 n0 y0).mono fun e W' ⟨he, hk⟩ => ?_
  have bel := hk.below
  subst he
  exact ⟨_, rfl, _, _, _, [], _, [], hW', trodAll_mk1 (shut_bool Tryd.underlying4 _), (trodAll_cons_mk (Below.trod laidOut (by kernel_rfl) (of_decide_eq_true (by kernel_rfl)) k0 bel lt0) trodAll_mk0), rfl, bel.frame _, fun h => by cases h⟩
theorem reads (os : Os) {H : Type} (enc : TypeId × Value → H) : ∃ places, DataW.whole enc Tryd.prog ((laidWorld os).forCall (fun _ _ => 0) ⟨#[], #[.slice none 0 0], []⟩).memory Tryd.f7.params.toList Rows.deflateNilSpec.vars false #[Value.slice none 0 0].toList 8 = some ([.nil], [], places) :=
  ⟨[], by kernel_rfl⟩
set_option maxRecDepth 100000 in
theorem lifted (os : Os) (started : os.Started) (H : Type) (enc : TypeId × Value → H) (F : Stop.Interp) :
    ReturnsInHanded {} Tryd.checked os 7 .any ((OpenSpec.ofChange Rows.deflateNilSpec).preRow enc Tryd.prog Tryd.f7 Rows.deflateNilRow.domain false Rows.deflateNilRow.laid) (((OpenSpec.ofChange Rows.deflateNilSpec).at F).post enc Tryd.prog Tryd.f7 false true false false) := by
  obtain ⟨places, hx⟩ := reads os enc
  refine returnsInHanded_of_row (C := Tryd.checked) (s := OpenSpec.ofChange Rows.deflateNilSpec) own started (by kernel_rfl) Tryd.func7
    (witness_row_at (enc := enc) (C := Tryd.checked) false (laidWorld os) #[.slice none 0 0] rfl (by kernel_rfl) (by kernel_rfl) (by kernel_rfl)
      (OpenSpec.preRow_of_cond 8 hx (by kernel_rfl) (fun k hk => by cases hk) (by kernel_rfl) (laid_met os _))) ?_
  intro W base args ds gs before hval hW _ _ _ hL _ _
  exact contract H enc W base args ds gs before hval hW hL
theorem said : Rows.DeflateNilSaid :=
  OpenClaim.holds_of_cond 7 Tryd.f7 rfl rfl rfl rfl rfl rfl rfl ⟨rfl, rfl, rfl, rfl, rfl⟩ rfl rfl rfl rfl rfl (by kernel_rfl) Tryd.func7 (by kernel_rfl)
    (of_decide_eq_true (by kernel_rfl)) (by unfold Func.isWrapper; first | (rw [if_pos (by decide +kernel)]; kernel_rfl) | (rw [if_neg (by decide +kernel)]; exact ⟨rfl, rfl⟩))
    (fun os started H enc _ F => by rw [OpenClaim.pre_eq_preRow]; exact lifted os started H enc F)
theorem plain (f : FuncId) (fn : Func) (hf : Tryd.pinned.checked.prog.funcNamed "haversack/haversacklaw07.DeflateNil" = some f) (hfn : Tryd.pinned.checked.prog.funcs[f]? = some fn) :
    false = Tryd.pinned.checked.prog.looks [] ∧ ∀ (j : Nat) t, fn.params[j]? = some t → Tryd.pinned.checked.prog.wantsStandIn t = false := by
  obtain rfl : f = 7 := Option.some.inj ((show Tryd.prog.funcNamed "haversack/haversacklaw07.DeflateNil" = some 7 by kernel_rfl).symm.trans hf) |>.symm
  obtain rfl : fn = Tryd.f7 := (Option.some.inj (Tryd.func7.symm.trans hfn)).symm
  refine ⟨by kernel_rfl, fun j t ht => ?_⟩
  rw [Tryd.params7] at ht
  have hm := Array.mem_of_getElem? ht
  obtain rfl : t = 22 := by simpa using hm
  exact (show Tryd.prog.wantsStandIn 22 = false by kernel_rfl)
/-- The card. -/
theorem card : Rows.DeflateNilCardSaid :=
  Claim7.holds_tied_plain_at .later [] _ _ _ _ said (fun _ h => by cases h) (by kernel_rfl) (fun _ h => by cases h) deflateNil_row_tie rfl ⟨rfl, rfl⟩ (by kernel_rfl) rfl plain (by kernel_rfl)
#print axioms card
end Go.Proofs.YtkpabdjniiepkaaDoor.deflateNil
