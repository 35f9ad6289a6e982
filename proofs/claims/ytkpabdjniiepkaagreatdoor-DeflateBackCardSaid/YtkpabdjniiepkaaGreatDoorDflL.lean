import Derived.Test.YtkpabdjniiepkaaGreatDoorDflK
import Derived.Test.YtkpabdjniiepkaaGreatDoorDflB
import Derived.Test.YtkpabdjniiepkaaGreatDoorDflH
import Derived.Test.YtkpabdjniiepkaaGreatDoorDflG
import Derived.Test.YtkpabdjniiepkaaGreatDoorDflA
import Derived.Test.YtkpabdjniiepkaaGreatDoorDflC
import Derived.Laws.BytesArg
import Derived.Test.YtkpabdjniiepkaaGreatDoorCards
import Derived.Test.YtkpabdjniiepkaaGreatDoorTie
import Derived.ProofKit
import Derived.OpenShut
import Derived.ChangeOld
import Derived.Deep.DeepHandedRow
import Derived.Deep.DeepLaidRun
import Derived.Lib.LaidTab
set_option linter.unusedVariables false
set_option linter.unusedSimpArgs false
namespace Go.Proofs.YtkpabdjniiepkaaGreatDoor
open Go.RowKit
/-- What the reference's reading gives. -/
def RReadP (w : World) (bs : List Int) (most : Nat) (r : IRes) (e : Ending) (w' : World) : Prop :=
  ∃ g B M c q ob, e = .returned (.pointer (some ⟨g, 0, none⟩)) ∧ RD w' g B M c bs q r.1 most r.2.2 ob ∧ (r.2.2 = 0 → q = r.2.1) ∧ w.heap.size ≤ g ∧ Keeps [] w w'
theorem fix_ok : fixDist.all okLen = true := by decide +kernel
set_option maxRecDepth 100000 in
set_option maxHeartbeats 4000000 in
theorem rread_calls (w : World) (A : Option Addr) (n c : Nat) (bs : List Int) (most : Nat) (hr : RI .u8 w A n bs) (hbyte : ∀ j, 0 ≤ nth bs j ∧ nth bs j ≤ 255) (hn : n ≤ 1000000) (hm : most ≤ 16384) :
    Calls Tryz.prog 37 #[.slice A n c, .int .i64 most] w (RReadP w bs most (inflF bs most)) := by
  have HR := Lib.hid hr
  have HBY := Lib.hid hbyte
  have HLB := Lib.hid hr.len
  clear hr hbyte
  go_enter Tryz.func37, Tryz.ntmps37
  go_wp2_with fail
  refine (of_calls w A n c bs HR.out HBY.out (by omega)).mono ?_
  rintro _ w1 ⟨v1, rfl, ho1, hb1⟩
  have hk1 := Keeps.of_below hb1 (S := [])
  obtain ⟨B, cB, rfl, hri, -, hlo⟩ := own_ri ho1
  have HRB := Lib.hid hri
  have HLO : Hid (∀ a, B = some a → a.block < w1.heap.size) := Lib.hid (fun a ha => (hlo a ha).2.1)
  have HK1 := Lib.hid hk1
  clear ho1 hb1 hri hlo hk1 HR
  obtain ⟨M, hM⟩ : ∃ M, M = 8 * n := ⟨_, rfl⟩
  rw [← hM] at HRB ⊢
  have HM : Hid (M = 8 * bs.length) := Lib.hid (by rw [HLB.out, hM])
  have hM2 : M ≤ 100000000 := by omega
  clear hM
  obtain ⟨g, hg⟩ : ∃ g, g = w1.heap.size := ⟨_, rfl⟩
  obtain ⟨w2, hw2⟩ : ∃ w2, w2 = w1.alloc (.cells #[.slice B M cB, .int .i64 0, .slice none 0 0, .int .i64 most, .int .i64 0] 78) := ⟨_, rfl⟩
  have hk2 : Keeps [] w1 w2 := by rw [hw2]; exact (Keeps.refl [] w1).alloc _
  have hb2 : Blk w2 g 78 [.slice B M cB, .int .i64 0, .slice none 0 0, .int .i64 most, .int .i64 0] := by rw [hw2, hg]; exact blk_new w1 _ _
  have H2 : Hid (RD w2 g B M cB bs 0 [] most 0 none) := Lib.hid ⟨⟨_, hb2, World.ownsRow_nil _ _ _ _, rfl⟩, HRB.out.keeps hk2 (off_nil _), fun a ha => by rw [hg]; exact HLO.out a ha, HM.out, by omega, by simp, hm, hM2⟩
  have HK2 := Lib.hid (HK1.out.trans hk2)
  have HG : Hid (w.heap.size ≤ g) := Lib.hid (by rw [hg]; exact HK1.out.size)
  go_upto_region 2 with (fail)
  rw [← hw2, ← hg]
  clear hw2 hg hk2 hb2 HRB HLO HK1
  go_wp2_with fail
  go_loopg [6] (8 * bs.length + 2) (fun k lv wr => ∃ (la : Int) (q : Nat) (o : List Int) (e : Int) (ob : Option Nat), lv = .int .i64 la ∧ Hid ((la = 0 ∧ e = 0 ∧ 8 * bs.length - q + 1 < k ∧ q ≤ 8 * bs.length ∧ inflF bs most = blksF bs most (k - 1) o q) ∨
      ((la ≠ 0 ∨ e ≠ 0) ∧ 0 < k ∧ (inflF bs most).1 = o ∧ (inflF bs most).2.2 = e ∧ (e = 0 → q = (inflF bs most).2.1))) ∧ Hid (RD wr g B M cB bs q o most e ob) ∧ Hid (FR g none ob w2 wr))
  case atStart => exact ⟨0, 0, [], 0, none, rfl, Lib.hid (.inl ⟨rfl, rfl, by omega, by omega, rfl⟩), H2, Lib.hid (FR.refl _ _ _)⟩
  case round =>
    clear H2
    obtain ⟨la, q, o, e, ob, rfl, HS, H, K⟩ := hrel
    obtain ⟨-, -, -, c4, -⟩ := H.out.cells
    have HDONE : Hid (∀ (wx : World) (q : Nat) (o : List Int) (e : Int) (ob : Option Nat), (inflF bs most).1 = o → (inflF bs most).2.2 = e → (e = 0 → q = (inflF bs most).2.1) → RD wx g B M cB bs q o most e ob → FR g none ob w2 wx →
        RReadP w bs most (inflF bs most) (.returned (.pointer (some ⟨g, 0, none⟩))) wx) := Lib.hid (fun wx q o e ob h1 h2 h3 h4 h5 =>
      ⟨g, B, M, cB, q, ob, rfl, by rw [h1, h2]; exact h4, fun h => h3 (by rw [← h2]; exact h), HG.out, FR.new HK2.out h5 HG.out (fun x hx => by cases hx)⟩)
    by_cases hla : la = 0
    rotate_left
    · have e1 : (la == 0) = false := by simpa using hla
      obtain ⟨h1, h2, h3⟩ : (inflF bs most).1 = o ∧ (inflF bs most).2.2 = e ∧ (e = 0 → q = (inflF bs most).2.1) := by
        rcases HS.out with ⟨a, _⟩ | ⟨-, -, a, b, c⟩
        · exact absurd a hla
        · exact ⟨a, b, c⟩
      have HF := Lib.hid (HDONE.out wr q o e ob h1 h2 h3 H.out K.out)
      clear HS h1 h2 h3 hla HDONE
      go_wp2_with fail
      go_ret
      exact HF.out
    by_cases hez : e = 0
    rotate_left
    · have e2 : (e == 0) = false := by simpa using hez
      obtain ⟨h1, h2, h3⟩ : (inflF bs most).1 = o ∧ (inflF bs most).2.2 = e ∧ (e = 0 → q = (inflF bs most).2.1) := by
        rcases HS.out with ⟨-, a, _⟩ | ⟨-, -, a, b, c⟩
        · exact absurd a hez
        · exact ⟨a, b, c⟩
      have HF := Lib.hid (HDONE.out wr q o e ob h1 h2 h3 H.out K.out)
      subst hla
      clear HS h1 h2 h3 hez HDONE
      go_wp2_with fail
      go_ret
      exact HF.out
    subst hla
    subst hez
    obtain ⟨hk, hq, hin⟩ : 8 * bs.length - q + 1 < gk ∧ q ≤ 8 * bs.length ∧ inflF bs most = blksF bs most (gk - 1) o q := by
      rcases HS.out with ⟨-, -, a, b, c⟩ | ⟨a, _⟩
      · exact ⟨a, b, c⟩
      · rcases a with a | a <;> exact absurd rfl a
    obtain ⟨f, rfl⟩ : ∃ f, gk = f + 1 + 1 := ⟨gk - 2, by omega⟩
    rw [show f + 1 + 1 - 1 = f + 1 by omega] at hin
    have HS2 : Hid (inflF bs most = if 8 * bs.length < q + 1 then (o, 0, 55)
      else if 8 * bs.length < q + 3 then (o, 0, 55)
      else if (blockF bs most (numB bs (q + 1) 2) o (q + 3)).2.2 ≠ 0 then blockF bs most (numB bs (q + 1) 2) o (q + 3)
      else if numB bs q 1 = 0 then blksF bs most f (blockF bs most (numB bs (q + 1) 2) o (q + 3)).1 (blockF bs most (numB bs (q + 1) 2) o (q + 3)).2.1
      else blockF bs most (numB bs (q + 1) 2) o (q + 3)) := Lib.hid (by rw [hin, blksF])
    clear hin HS
    go_wp2_with fail
    clear c4
    refine (rtake_calls wr g B M cB bs q o most 0 ob 1 1 rfl H.out (by omega)).mono ?_
    rintro _ w3 ⟨la, q1, e1, rfl, h3, k3, l0, l1, -, hc3⟩
    have H3 := Lib.hid h3
    have K3 := Lib.hid (K.out.trans (FR.of_keeps k3))
    rw [show (2 : Int) ^ 1 = 2 from rfl] at l1
    clear h3 k3 H K
    go_wp2_with fail
    refine (rtake_calls w3 g B M cB bs q1 o most e1 ob 2 2 rfl H3.out (by omega)).mono ?_
    rintro _ w4 ⟨ki, q2, e2, rfl, h4, k4, n0, n1, -, hc4⟩
    have H4 := Lib.hid h4
    have K4 := Lib.hid (K3.out.trans (FR.of_keeps k4))
    rw [show (2 : Int) ^ 2 = 4 from rfl] at n1
    obtain ⟨-, -, -, c4, -⟩ := h4.cells
    have f4 := h4.free 4
    clear h4 k4 H3 K3
    have HC : Hid ((e2 = 0 ∧ q + 3 ≤ 8 * bs.length ∧ q2 = q + 3 ∧ la = numB bs q 1 ∧ ki = numB bs (q + 1) 2) ∨ (e2 = 55 ∧ inflF bs most = (o, 0, 55))) := Lib.hid (by
      have hM := HM.out
      rcases hc3 with ⟨-, x1, rfl, x2, rfl⟩ | ⟨-, x1, rfl, x2, rfl⟩ | ⟨x1, _⟩
      · rcases hc4 with ⟨-, y1, rfl, y2, rfl⟩ | ⟨-, y1, rfl, y2, rfl⟩ | ⟨y1, _⟩
        · exact .inl ⟨rfl, by omega, by omega, x2, y2⟩
        · exact .inr ⟨rfl, by rw [HS2.out, if_neg (by omega), if_pos (by omega)]⟩
        · exact absurd rfl y1
      · rcases hc4 with ⟨y1, _⟩ | ⟨y1, _⟩ | ⟨-, rfl, _⟩
        · exact absurd y1 (by decide)
        · exact absurd y1 (by decide)
        · exact .inr ⟨rfl, by rw [HS2.out, if_pos (by omega)]⟩
      · exact absurd rfl x1)
    clear hc3 hc4
    rcases HC.out with ⟨rfl, hq3, rfl, hlae, hkie⟩ | ⟨rfl, hin⟩
    rotate_left
    · have HF := Lib.hid (HDONE.out w4 q2 o 55 ob (by rw [hin]) (by rw [hin]) (fun h => absurd h (by decide)) H4.out K4.out)
      clear HS2 HC HDONE hin
      go_wp2_with fail
      go_ret
      exact HF.out
    have HS3 := Lib.hid (HS2.out.trans (by rw [if_neg (by omega), if_neg (by omega)]))
    rw [← hlae, ← hkie] at HS3
    have HQ3 : Hid (q + 3 ≤ 8 * bs.length) := Lib.hid hq3
    clear HS2 HC hlae hkie hq3
    have HBL : Hid (blockF bs most ki o (q + 3) = if ki = 0 then storedF bs most o (q + 3)
      else if ki = 1 then symF fixLit fixDist bs most (8 * bs.length + 1) o (q + 3)
      else if ki = 2 then
        if codesE (headF bs (q + 3)) ≠ 0 then (o, 0, codesE (headF bs (q + 3)))
        else symF (headF bs (q + 3)).1 (headF bs (q + 3)).2.1 bs most (8 * bs.length + 1) o (q + 3 + (headF bs (q + 3)).2.2.1)
      else (o, 0, 50)) := Lib.hid rfl
    obtain ⟨br, hbr⟩ : ∃ br, br = blockF bs most ki o (q + 3) := ⟨_, rfl⟩
    have HP : Hid (br.2.2 = 0 → q + 3 ≤ br.2.1 ∧ br.2.1 ≤ 8 * bs.length) := Lib.hid (fun h => by rw [hbr] at h ⊢; exact blockF_pos bs most ki o (q + 3) HQ3.out h)
    rw [← hbr] at HBL HS3
    clear hbr
    have HREL : Hid (∀ (wx : World) (q' : Nat) (ob2 : Option Nat), Hid (br.2.2 = 0 → q' = br.2.1) → Hid (RD wx g B M cB bs q' br.1 most br.2.2 ob2) → Hid (FR g none ob2 w2 wx) → ∃ (kk q9 : Nat) (o9 : List Int) (e9 : Int) (ob9 : Option Nat), kk < f + 1 + 1 ∧
        Hid ((la = 0 ∧ e9 = 0 ∧ 8 * bs.length - q9 + 1 < kk ∧ q9 ≤ 8 * bs.length ∧ inflF bs most = blksF bs most (kk - 1) o9 q9) ∨
      ((la ≠ 0 ∨ e9 ≠ 0) ∧ 0 < kk ∧ (inflF bs most).1 = o9 ∧ (inflF bs most).2.2 = e9 ∧ (e9 = 0 → q9 = (inflF bs most).2.1))) ∧ Hid (RD wx g B M cB bs q9 o9 most e9 ob9) ∧ Hid (FR g none ob9 w2 wx)) := Lib.hid (fun wx q' ob2 HQ' H5 K5 => by
      obtain ⟨o3, p3, er⟩ := br
      have hs3 := HS3.out
      simp only [] at HQ' H5 HP hs3
      by_cases her : er = 0
      · subst her
        obtain ⟨a1, a2⟩ := HP.out rfl
        obtain rfl := HQ'.out rfl
        rw [if_neg (by simp)] at hs3
        by_cases hla : la = 0
        · rw [if_pos hla] at hs3
          exact ⟨f + 1, q', o3, 0, ob2, by omega, Lib.hid (.inl ⟨hla, rfl, by omega, a2, by rw [show f + 1 - 1 = f by omega]; exact hs3⟩), H5, K5⟩
        · rw [if_neg hla] at hs3
          exact ⟨1, q', o3, 0, ob2, by omega, Lib.hid (.inr ⟨.inl hla, by omega, by rw [hs3], by rw [hs3], fun _ => by rw [hs3]⟩), H5, K5⟩
      · rw [if_pos her] at hs3
        exact ⟨1, q', o3, er, ob2, by omega, Lib.hid (.inr ⟨.inr her, by omega, by rw [hs3], by rw [hs3], fun h => absurd h her⟩), H5, K5⟩)
    clear HS3 HP HDONE
    by_cases h0 : ki = 0
    · subst h0
      have HB0 := Lib.hid (HBL.out.trans (if_pos rfl))
      clear HBL
      go_wp2_with fail
      clear c4 f4
      refine (rstored_calls w4 g B M cB bs (q + 3) o most ob H4.out).mono ?_
      rintro _ w5 ⟨q', ob2, rfl, h5, k5, hq5⟩
      rw [← HB0.out] at h5 hq5
      have H5 := Lib.hid h5
      have K5 := Lib.hid (K4.out.trans k5)
      have HQ5 := Lib.hid hq5
      clear h5 k5 hq5 H4 K4 HB0
      obtain ⟨kk, q9, o9, e9, ob9, hkk, r1, r2, r3⟩ := HREL.out _ _ ob2 (HQ5) (H5) (K5)
      clear HREL
      go_wp2_with fail
      go_roundg kk
      case measure => exact hkk
      case rel => exact ⟨la, q9, o9, e9, ob9, rfl, r1, r2, r3⟩
    have e0 : (ki == 0) = false := by simpa using h0
    by_cases h1 : ki = 1
    · subst h1
      have HB0 := Lib.hid (HBL.out.trans ((if_neg (by decide)).trans (if_pos rfl)))
      clear HBL
      go_wp2_with fail
      clear c4 f4
      refine (rfixed_calls w4).mono ?_
      rintro _ w5 ⟨v1, v2, rfl, ho1, ho2, hb5⟩
      have hk5 := Keeps.of_below hb5 (S := [])
      have H5 := Lib.hid (H4.out.keeps hk5)
      have K5 := Lib.hid (K4.out.trans (FR.of_nil hk5))
      obtain ⟨A1, c1, rfl, hri1, -, -⟩ := own_ri ho1
      obtain ⟨A2, c2, rfl, hri2, -, hlo2⟩ := own_ri ho2
      have HR1 := Lib.hid hri1
      have HR2 := Lib.hid hri2
      have HA2 : Hid (∀ a, A2 = some a → a.block ≠ g ∧ ob ≠ some a.block ∧ a.block < w5.heap.size) := Lib.hid (fun a ha => by
        have h1 := (hlo2 a ha).1
        have h2 := H4.out.lt
        exact ⟨by omega, fun h => by have := (H4.out.oblo _ h).2; omega, (hlo2 a ha).2.1⟩)
      clear ho1 ho2 hb5 hk5 hri1 hri2 hlo2 H4 K4
      go_wp2_with fail
      refine (rsymbols_calls w5 g B M cB bs (q + 3) o most ob fixLit fixDist A1 A2 288 32 c1 c2 H5.out HR1.out HR2.out (by omega) (by omega) fix_info.1 (fun _ => fix_info.2.1) fix_ok HA2.out).mono ?_
      rintro _ w6 ⟨q', ob2, rfl, h6, k6, hq6⟩
      rw [← HB0.out] at h6 hq6
      have H6 := Lib.hid h6
      have K6 := Lib.hid (K5.out.trans k6)
      have HQ6 := Lib.hid hq6
      clear h6 k6 hq6 H5 K5 HB0 HR1 HR2 HA2
      obtain ⟨kk, q9, o9, e9, ob9, hkk, r1, r2, r3⟩ := HREL.out _ _ ob2 (HQ6) (H6) (K6)
      clear HREL
      go_wp2_with fail
      go_roundg kk
      case measure => exact hkk
      case rel => exact ⟨la, q9, o9, e9, ob9, rfl, r1, r2, r3⟩
    have e1 : (ki == 1) = false := by simpa using h1
    by_cases h2 : ki = 2
    · subst h2
      have HB0 := Lib.hid (HBL.out.trans ((if_neg (by decide)).trans ((if_neg (by decide)).trans (if_pos rfl))))
      clear HBL
      go_wp2_with fail
      clear c4 f4
      refine (rhead_calls w4 g B M cB bs (q + 3) o most ob H4.out).mono ?_
      rintro _ w5 ⟨q5, v1, v2, rfl, h5, k5, hgood⟩
      have hfull := @head_full bs (q + 3)
      have hl1 := litF_le bs (q + 3)
      have hl2 := distF_le bs (q + 3)
      have hoks := (head_lenOk bs (q + 3)).2
      have K5 := Lib.hid (K4.out.trans (FR.of_keeps k5))
      by_cases hce : codesE (headF bs (q + 3)) ≠ 0
      · have H5 := Lib.hid h5
        have HB1 := Lib.hid (HB0.out.trans (if_pos hce))
        have HCE := Lib.hid hce
        generalize codesE (headF bs (q + 3)) = ce at *
        clear h5 k5 hgood hfull hoks HB0 hce H4 K4
        go_wp2_with fail
        refine (rsymbols_bad w5 g B M cB bs q5 o most ce ob v1 v2 H5.out HCE.out).mono ?_
        rintro _ w6 ⟨rfl, h6, k6⟩
        have H6 := Lib.hid h6
        have K6 := Lib.hid (K5.out.trans (FR.of_nil k6))
        clear h6 k6 H5 K5
        obtain ⟨kk, q9, o9, e9, ob9, hkk, r1, r2, r3⟩ := HREL.out _ q5 ob (Lib.hid (fun h => by rw [HB1.out] at h; exact absurd h HCE.out)) (by rw [HB1.out]; exact H6) (K6)
        clear HREL
        go_wp2_with fail
        go_roundg kk
        case measure => exact hkk
        case rel => exact ⟨la, q9, o9, e9, ob9, rfl, r1, r2, r3⟩
      · replace hce : codesE (headF bs (q + 3)) = 0 := Classical.not_not.1 hce
        have HB1 := Lib.hid (HB0.out.trans (if_neg (by rw [hce]; simp)))
        obtain ⟨hz, hck1, hck2⟩ := codesE_ok hce
        obtain ⟨hf1, hf2⟩ := hfull hz
        obtain ⟨rfl, A1, c1, A2, c2, rfl, rfl, hri1, hri2, hlo2⟩ := hgood hce
        rw [hce] at h5
        have H5 := Lib.hid h5
        have HR1 := Lib.hid hri1
        have HR2 := Lib.hid hri2
        have HCK1 := Lib.hid hck1
        have HCK2 := Lib.hid hck2
        have HOKS := Lib.hid (lenOk_all hoks)
        have HA2 : Hid (∀ a, A2 = some a → a.block ≠ g ∧ ob ≠ some a.block ∧ a.block < w5.heap.size) := Lib.hid (fun a ha => by
          have h1 := (hlo2 a ha).1
          have h2 := H4.out.lt
          exact ⟨by omega, fun h => by have := (H4.out.oblo _ h).2; omega, (hlo2 a ha).2⟩)
        have b1 : (headF bs (q + 3)).1.length ≤ 288 := by omega
        have b3 : (headF bs (q + 3)).2.1.length ≤ 288 := by omega
        clear h5 k5 hgood hfull hoks HB0 hce hz hck1 hck2 hf1 hf2 hri1 hri2 hlo2 H4 K4
        generalize headF bs (q + 3) = hd at *
        obtain ⟨L1, L2, nn, er0⟩ := hd
        simp only [] at H5 HR1 HR2 HCK1 HCK2 HOKS b1 b3 HB1 ⊢
        obtain ⟨n1, hn1⟩ : ∃ n, n = L1.length := ⟨_, rfl⟩
        obtain ⟨n2, hn2⟩ : ∃ n, n = L2.length := ⟨_, rfl⟩
        rw [← hn1] at b1 HR1 ⊢
        rw [← hn2] at b3 HR2 ⊢
        clear hn1 hn2
        go_wp2_with fail
        refine (rsymbols_calls w5 g B M cB bs (q + 3 + nn) o most ob L1 L2 A1 A2 n1 n2 c1 c2 H5.out HR1.out HR2.out b1 b3 HCK1.out HCK2.out HOKS.out HA2.out).mono ?_
        rintro _ w6 ⟨q', ob2, rfl, h6, k6, hq6⟩
        rw [← HB1.out] at h6 hq6
        have H6 := Lib.hid h6
        have K6 := Lib.hid (K5.out.trans k6)
        have HQ6 := Lib.hid hq6
        clear h6 k6 hq6 H5 K5 HB1 HR1 HR2 HA2
        obtain ⟨kk, q9, o9, e9, ob9, hkk, r1, r2, r3⟩ := HREL.out _ _ ob2 (HQ6) (H6) (K6)
        clear HREL
        go_wp2_with fail
        go_roundg kk
        case measure => exact hkk
        case rel => exact ⟨la, q9, o9, e9, ob9, rfl, r1, r2, r3⟩
    · obtain rfl : ki = 3 := by omega
      have HB0 := Lib.hid (HBL.out.trans ((if_neg (by decide)).trans ((if_neg (by decide)).trans (if_neg (by decide)))))
      have HX := Lib.hid (H4.out.wrong 50)
      have KX := Lib.hid (K4.out.trans (FR.of_keeps (keepsCell w4 g 4 (.int .i64 50))))
      clear HBL
      obtain ⟨kk, q9, o9, e9, ob9, hkk, r1, r2, r3⟩ := HREL.out _ (q + 3) ob (Lib.hid (fun h => by rw [HB0.out] at h; exact absurd h (show ¬ (50 : Int) = 0 by decide))) (by rw [HB0.out]; exact HX) (KX)
      clear HREL
      go_wp2_with fail
      go_roundg kk
      case measure => exact hkk
      case rel => exact ⟨la, q9, o9, e9, ob9, rfl, r1, r2, r3⟩
/-- What the reference's answer is. -/
def RInfP (w : World) (r : List Int × Nat × Int) (e : Ending) (w' : World) : Prop := ∃ B2 c2, e = .returned (.tuple #[.slice B2 r.1.length c2, .int .i64 (r.2.1 : Nat), .int .i64 r.2.2]) ∧ RI .u8 w' B2 r.1.length r.1 ∧ (∀ a, B2 = some a → w.heap.size ≤ a.block) ∧ Keeps [] w w'
set_option maxRecDepth 100000 in
set_option maxHeartbeats 1000000 in
theorem rinflate_calls (w : World) (A : Option Addr) (n c : Nat) (bs : List Int) (most : Int) (hr : RI .u8 w A n bs) (hbyte : ∀ j, 0 ≤ nth bs j ∧ nth bs j ≤ 255) (hn : n ≤ 1000000) :
    Calls Tryz.prog 21 #[.slice A n c, .int .i64 most] w (RInfP w (inflR bs most)) := by
  have HR := Lib.hid hr
  have HBY := Lib.hid hbyte
  have HRL := Lib.hid hr.len
  clear hr hbyte
  have hnil : ∀ w : World, RI .u8 w none 0 [] := fun w => ⟨rfl, by omega, by simp⟩
  have HNIL := Lib.hid hnil
  clear hnil
  go_enter Tryz.func21, Tryz.ntmps21
  by_cases h0 : most < 0
  · have e0 : decide (most < 0) = true := by simpa using h0
    have HE : Hid (inflR bs most = ([], 0, 1)) := Lib.hid (by unfold inflR; rw [if_pos (.inl h0)])
    clear h0
    go_wp2_with fail
    go_ret3
    rw [HE.out]
    exact ⟨_, _, rfl, HNIL.out _, (fun a ha => by cases ha), Keeps.refl _ _⟩
  have e0 : decide (most < 0) = false := by simpa using h0
  by_cases h1 : 16384 < most
  · have e1 : decide (16384 < most) = true := by simpa using h1
    have HE : Hid (inflR bs most = ([], 0, 1)) := Lib.hid (by unfold inflR; rw [if_pos (.inr h1)])
    clear h1
    go_wp2_with fail
    go_ret3
    rw [HE.out]
    exact ⟨_, _, rfl, HNIL.out _, (fun a ha => by cases ha), Keeps.refl _ _⟩
  have e1 : decide (16384 < most) = false := by simpa using h1
  obtain ⟨m, rfl⟩ := Int.eq_ofNat_of_zero_le (show 0 ≤ most by omega)
  have hm : m ≤ 16384 := by omega
  have HE : Hid (inflR bs (m : Nat) = if (inflF bs m).2.2 ≠ 0 then ([], 0, (inflF bs m).2.2) else ((inflF bs m).1, ((inflF bs m).2.1 + 7) / 8, 0)) := Lib.hid (by unfold inflR; rw [if_neg (by omega), Int.toNat_natCast])
  change Code.wp _ _ _ _ _
  go_wp2_with fail
  refine (rread_calls w A n c bs m HR.out HBY.out hn hm).mono ?_
  rintro _ w1 ⟨g, B, M, cB, q, ob, rfl, hi, hq, hg, hk⟩
  have HI := Lib.hid hi
  have HK := Lib.hid hk
  have HPOS := Lib.hid (fun h => inflF_pos bs m h)
  clear hk HR HBY h0 h1 e0 e1
  generalize inflF bs m = ir at *
  obtain ⟨o3, p3, er⟩ := ir
  simp only [] at HE HPOS hi hq HI ⊢
  obtain ⟨-, k1, -, k4, -⟩ := hi.cells
  obtain ⟨vv, hbx, hox, -⟩ := hi.box
  obtain ⟨A2, c2, rfl, hri, -, hlo⟩ := own_ri hox
  have k2 := hbx.cell 2
  simp only [List.getElem?_cons_zero, List.getElem?_cons_succ] at k2
  have HRI := Lib.hid hri
  have HLO : Hid (∀ a, A2 = some a → w.heap.size ≤ a.block) := Lib.hid (fun a ha => by have := (hlo a ha).1; omega)
  clear hbx hox hlo
  by_cases her : er = 0
  · subst her
    obtain rfl := hq rfl
    have HE1 := Lib.hid (HE.out.trans (if_neg (by simp)))
    have hp := HPOS.out rfl
    have hrl := HRL.out
    obtain ⟨Q, hQ⟩ : ∃ Q, Q = (q + 7) / 8 := ⟨_, rfl⟩
    rw [← hQ] at HE1
    have s1 : IntKind.i64.wrap ((q : Int) + 7) = (q : Int) + 7 := IntWalk.i64_in _ (by omega)
    have s2 : ((q : Int) + 7).tdiv 8 = (Q : Int) := by rw [Int.tdiv_eq_ediv_of_nonneg (by omega)]; omega
    have s3 : IntKind.i64.wrap (Q : Int) = Q := IntWalk.i64_in _ (by omega)
    clear HE hq hi HI HPOS hrl hQ hri
    go_wp2_with fail
    go_quiet (fail)
    go_wp2_with fail
    go_ret3
    rw [HE1.out]
    exact ⟨_, _, rfl, HRI.out.keeps ((Keeps.refl [] w1).drewN _) (off_nil _), HLO.out, HK.out.drewN _⟩
  · have HE1 := Lib.hid (HE.out.trans (if_pos her))
    have e2 : (er != 0) = true := by simpa using her
    clear HE hq hi HI HPOS her k2 hri
    go_wp2_with fail
    go_quiet (fail)
    go_wp2_with fail
    go_ret3
    rw [HE1.out]
    exact ⟨_, _, rfl, HNIL.out _, (fun a ha => by cases ha), HK.out.drewN _⟩
end Go.Proofs.YtkpabdjniiepkaaGreatDoor

set_option linter.unusedVariables false
set_option linter.unusedSimpArgs false
namespace Go.Proofs.YtkpabdjniiepkaaGreatDoor
open Go.RowKit
set_option maxHeartbeats 400000 in
theorem keepBytes_calls (w : World) (A B : Option Addr) (n m c d : Nat) (xs ys : List Int) (hx : RI .u8 w A n xs) (hy : RI .u8 w B m ys) (hn : n ≤ 140737488355328) (hm : m ≤ 140737488355328) :
    Calls Tryz.prog 8 #[.slice A n c, .slice B m d] w fun e w' => e = .returned (.bool (xs == ys)) ∧ Dr w w' := by
  have lx := hx.len
  have ly := hy.len
  by_cases hnm : n = m
  · subst hnm
    have t0 : ((n : Int) != (n : Int)) = false := by simp
    go_enter Tryz.func8, Tryz.ntmps8
    go_wp2
    clear t0
    have HX := Lib.hid hx
    have HY := Lib.hid hy
    have LX := Lib.hid lx
    have LY := Lib.hid ly
    clear hx hy lx ly
    go_loopw [5] (fun i wr => ∃ k : Nat, k ≤ n ∧ i = .int .i64 k ∧ Hid (∀ j, j < k → nth xs j = nth ys j) ∧ Hid (Dr w wr)) (fun i _ => n - (intOf i).toNat)
    case atStart => exact ⟨0, by omega, rfl, fun j hj => by omega, Dr.refl _⟩
    case round =>
      obtain ⟨k, hk, rfl, HE, HW⟩ := hrel
      obtain ⟨q, rfl⟩ := HW.out
      clear HW
      by_cases hlt : k < n
      · obtain ⟨a, o, rfl, ha⟩ := HX.out.at hlt
        obtain ⟨b, o', rfl, hb⟩ := HY.out.at hlt
        by_cases hv : nth xs k = nth ys k
        · have t1 : (nth xs k != nth ys k) = false := by simpa using hv
          have HV := Lib.hid hv
          clear hv
          go_wp2
          go_quiet (fail)
          go_wp2
          go_roundw
          case rel => exact ⟨k + 1, by omega, by go_num, eq_snoc HE.out HV.out, ⟨_, rfl⟩⟩
          case measure => simp [intOf]; omega
        · have t1 : (nth xs k != nth ys k) = true := by simpa using hv
          have HV := Lib.hid hv
          clear hv
          go_wp2
          go_quiet (fail)
          go_wp2
          go_ret
          rw [beq_of_ne xs ys k HV.out]
          exact ⟨rfl, Dr.step ⟨_, rfl⟩ _⟩
      · go_wp2
        go_ret
        rw [beq_of_getD xs ys n LX.out LY.out (fun j hj => HE.out j (by omega))]
        exact ⟨rfl, _, rfl⟩
  · have t0 : ((n : Int) != (m : Int)) = true := by simp; omega
    go_enter Tryz.func8, Tryz.ntmps8
    go_wp2
    go_ret
    rw [beq_of_len xs ys (by omega)]
    exact ⟨rfl, 0, rfl⟩
end Go.Proofs.YtkpabdjniiepkaaGreatDoor

set_option linter.unusedVariables false
set_option linter.unusedSimpArgs false
namespace Go.Proofs.YtkpabdjniiepkaaGreatDoor
open Go.RowKit
/-- Bytes that are lent: two marks behind them. -/
def Lent8 (w : World) (g : Nat) (xs : List Int) : Prop := Blk w g 5 (ints .u8 (xs ++ [165, 90]))
theorem Lent8.ri {w : World} {g : Nat} {xs : List Int} (h : Lent8 w g xs) : RI .u8 w (some ⟨g, 0, none⟩) xs.length xs := Blk.ri h
/-- A block of bytes, whatever they are. -/
def Any8 (w : World) (g m : Nat) : Prop := ∃ zs : List Int, zs.length = m ∧ Blk w g 5 (ints .u8 zs)
end Go.Proofs.YtkpabdjniiepkaaGreatDoor

set_option linter.unusedVariables false
set_option linter.unusedSimpArgs false
namespace Go.Proofs.YtkpabdjniiepkaaGreatDoor
open Go.RowKit
theorem by_all {xs : List Int} (h : xs.all (fun x => decide (0 ≤ x) && decide (x ≤ 255)) = true) (j : Nat) : 0 ≤ nth xs j ∧ nth xs j ≤ 255 := by
  by_cases hj : j < xs.length
  · have := List.all_eq_true.1 h (nth xs j) (by rw [nth_lt hj]; exact List.getElem_mem _)
    simpa using this
  · simp [nth, List.getD, List.getElem?_eq_none (Nat.le_of_not_lt hj)]
theorem conv_str {w : World} {A : Option Addr} {n c : Nat} {xs : List Int} (h : RI .u8 w A n xs) (h1 : 0 < n) (s : ByteArray) (hs : strOfNums xs = s) : (convert 22 9 (.slice A n c)).run Tryz.prog w = .ok (.string s) w := by
  subst hs
  obtain ⟨b, o, rfl⟩ := h.hd h1
  exact run_convert_bytes_arg w 22 5 Tryz.underlying22 Tryz.underlying5 b o n c xs h.len (fun i hi => h.cell b o rfl i hi) 9 Tryz.underlying9
theorem lit_bytes (w : World) (xs : List Int) : RI .u8 (w.alloc (.cells (ints .u8 xs).toArray 5)) (some ⟨w.heap.size, 0, none⟩) xs.length xs := by
  have := Blk.ri (xs := xs) (ys := []) (k := .u8) (by simpa using blk_new w 5 (ints .u8 xs))
  exact this
theorem byte_ofwf {zs : List Int} (h : ∀ x ∈ zs, (Lit.int .u8 x).wf = true) (j : Nat) : 0 ≤ nth zs j ∧ nth zs j ≤ 255 := by
  by_cases hj : j < zs.length
  · have := h (nth zs j) (by rw [nth_lt hj]; exact List.getElem_mem _)
    simp [Lit.wf] at this
    rwa [show IntKind.u8.min = 0 from rfl, show IntKind.u8.max = 255 from rfl] at this
  · simp [nth, List.getD, List.getElem?_eq_none (Nat.le_of_not_lt hj)]
theorem int_ofwf {k : Int} (hk : (Lit.int .i64 k).wf = true) : -9223372036854775808 ≤ k ∧ k ≤ 9223372036854775807 := by
  simp [Lit.wf] at hk
  first
    | exact hk
    | rwa [show IntKind.i64.min = -9223372036854775808 from rfl, show IntKind.i64.max = 9223372036854775807 from rfl] at hk
end Go.Proofs.YtkpabdjniiepkaaGreatDoor

/- What every row of this seat uses: the tables as the row lists them, a world for the witness, a slice of numbers that came in. -/
set_option linter.unusedVariables false
set_option linter.unusedSimpArgs false
namespace Go.Proofs.YtkpabdjniiepkaaGreatDoor
open Go.ChangeShapes Go.WideShapes Go.ChangeAt Go.RowKit
theorem own : ownKnob Tryz.prog.godebug = none := by kernel_rfl
theorem laidOut : laidOutB Tryz.prog = true := by kernel_rfl
abbrev theLaid : List (String × DataW Unit) := [("haversack/lens.order", Rows.laid_haversack_lens_order), ("haversack/lens.wide", Rows.laid_haversack_lens_wide), ("haversack/lens.from", Rows.laid_haversack_lens_from)]
theorem cellsArr : Tryz.prog.cellsOf 113 = 19 := by kernel_rfl
theorem cellsInt : Tryz.prog.cellsOf 3 = 1 := by kernel_rfl
theorem cellsU8 : Tryz.prog.cellsOf 5 = 1 := by kernel_rfl
theorem gFrom : Tryz.prog.globalNamed "haversack/lens.from" = some 2 := by kernel_rfl
theorem gWide : Tryz.prog.globalNamed "haversack/lens.wide" = some 1 := by kernel_rfl
theorem gOrder : Tryz.prog.globalNamed "haversack/lens.order" = some 0 := by kernel_rfl
theorem tFrom : (Tryz.prog.globals[2]?).map (·.type) = some 113 := by kernel_rfl
theorem tWide : (Tryz.prog.globals[1]?).map (·.type) = some 113 := by kernel_rfl
theorem tOrder : (Tryz.prog.globals[0]?).map (·.type) = some 113 := by kernel_rfl
theorem ri_of_tab {W : World} {g : Nat} {zs : List Int} (hl : zs.length = 19) (h : ∀ i, i < zs.length → W.cell? ⟨g, i, none⟩ = some (.int .i64 (zs.getD i 0))) : RI .i64 W (some ⟨g, 0, none⟩) 19 zs :=
  ⟨hl, fun _ => ⟨_, _, rfl⟩, fun b o ha j hj => by
    injection ha with ha; injection ha with h1 h2 h3; subst h1; subst h2
    rw [Nat.zero_add]; exact h j (by omega)⟩
theorem tabs_of {W : World} (h : laidMet Tryz.prog theLaid W) : Tabs W := by
  have h1 : laidMet Tryz.prog [("haversack/lens.from", Lib.tabData .i64 fromL)] W := laidMet.filter (fun x => x.1 == "haversack/lens.from") h
  have h2 : laidMet Tryz.prog [("haversack/lens.wide", Lib.tabData .i64 wideL)] W := laidMet.filter (fun x => x.1 == "haversack/lens.wide") h
  have h3 : laidMet Tryz.prog [("haversack/lens.order", Lib.tabData .i64 orderL)] W := laidMet.filter (fun x => x.1 == "haversack/lens.order") h
  have t1 := Lib.tabIs_of_head (rest := []) gFrom tFrom Tryz.underlying113 Tryz.underlying3 cellsInt cellsArr h1
  have t2 := Lib.tabIs_of_head (rest := []) gWide tWide Tryz.underlying113 Tryz.underlying3 cellsInt cellsArr h2
  have t3 := Lib.tabIs_of_head (rest := []) gOrder tOrder Tryz.underlying113 Tryz.underlying3 cellsInt cellsArr h3
  exact ⟨ri_of_tab rfl (t1.cell gFrom), ri_of_tab rfl (t2.cell gWide), ri_of_tab rfl (t3.cell gOrder)⟩
def setTab (zs : List Int) : Obj → Obj
  | .cells _ t frozen => .cells (ints .i64 zs).toArray t frozen
  | o => o
/-- A world for the witness: the settled one, the tables holding what their initialisers lay. -/
noncomputable def laidWorld (os : Os) : World :=
  { World.holding Tryz.prog os ⟨#[], #[], []⟩ with heap := (((World.holding Tryz.prog os ⟨#[], #[], []⟩).heap.modify 2 (setTab fromL)).modify 1 (setTab wideL)).modify 0 (setTab orderL) }
theorem laid_met (os : Os) (args : Array Value) : laidMet Tryz.prog theLaid ((laidWorld os).forCall (fun _ _ => 0) ⟨#[], args, []⟩).memory :=
  laidMet_of_run3 8 (by kernel_rfl) (by kernel_rfl) (by kernel_rfl)
/-- A slice of numbers that came in. -/
theorem ri_came {H : Type} {enc : TypeId × Value → H} {W : World} {k : IntKind} {t e : TypeId} {a0 : Option Addr} {len0 cap0 : Nat} {d : DataW H} {p : List MemPlace}
    (ht : Tryz.prog.underlying t = some (.slice e)) (he : Tryz.prog.underlying e = some (.int k)) (hc : Tryz.prog.cellsOf e = 1)
    (h : DataW.Trod enc Tryz.prog W 0 (fun _ => true) true t (Value.slice a0 len0 cap0) d p) :
    ∃ xs, RI k W a0 len0 xs ∧ len0 ≤ maxLen ∧ (a0 = none → len0 = 0 ∧ cap0 = 0) ∧ ∀ x ∈ xs, (Lit.int k x).wf = true := by
  obtain ⟨fuel, hf⟩ := h
  rcases open_ints ht he hc hf with ⟨hcs, _⟩ | ⟨x, l, c, zs, hcs, _, hl, hm, hz, _, hcell, hwz⟩
  · simp [Value.cells] at hcs
    obtain ⟨rfl, rfl, rfl⟩ := hcs
    exact ⟨[], ⟨rfl, by omega, by simp⟩, by omega, fun _ => ⟨rfl, rfl⟩, by simp⟩
  · simp [Value.cells] at hcs
    obtain ⟨rfl, rfl, rfl⟩ := hcs
    have hz' : zs.length = cap0 := by simpa using hz
    refine ⟨zs.take len0, ⟨by simp; omega, fun hp => ?_, fun b o ha j hj => ?_⟩, by omega, (by simp), fun y hy => hwz y (List.mem_of_mem_take hy)⟩
    · obtain ⟨b, o, rfl, _⟩ := ints_at hcell (by omega)
      exact ⟨b, o, rfl⟩
    · obtain rfl := Option.some.inj ha
      rw [nth_take _ _ _ hj, ← add_plain2]
      exact hcell j (by omega)
end Go.Proofs.YtkpabdjniiepkaaGreatDoor
