import Derived.Test.YtcblibefmclloaaDoorINilJ
import Derived.Test.YtcblibefmclloaaDoorINilI
import Derived.Test.YtcblibefmclloaaDoorINilC
import Derived.Deep.RegionWith
set_option linter.unusedVariables false
set_option linter.unusedSimpArgs false
namespace Go.Proofs.YtcblibefmclloaaDoor
open Go.RowKit
theorem codesE_ok {h : List Int × List Int × Nat × Int} (he : codesE h = 0) : h.2.2.2 = 0 ∧ checkF h.1 = 0 ∧ (anyUsed h.2.1 = true → checkF h.2.1 = 0) := by
  have h0 := codesE_zero he
  unfold codesE at he
  rw [if_neg (by rw [h0]; simp)] at he
  split at he
  · simp at he
  split at he
  · simp at he
  next h2 =>
  split at he
  · simp at he
  next h3 =>
  exact ⟨h0, by omega, fun hu => Classical.byContradiction fun hn => h3 ⟨hu, hn⟩⟩
set_option maxRecDepth 100000 in
set_option maxHeartbeats 2000000 in
theorem blocks_calls (w : World) (g gr : Nat) (A : Option Addr) (c : Nat) (bs : List Int) (p most : Nat) (out : List Int) (hT : Tabs w) (hg : gtop ≤ gr) (h : IR w g gr A c bs p most out) :
    Calls Tryd.prog 88 #[.pointer (some ⟨g, 0, none⟩)] w (Part w g gr A c bs most (blksF bs most (8 * bs.length + 1) out p)) := by
  have H := Lib.hid h
  have HT := Lib.hid hT
  have hgr := h.lt
  clear h hT
  go_enter Tryd.func88, Tryd.ntmps88
  go_wp2_with fail
  go_step3
  go_wp2_with fail
  go_step3
  go_wp2_with fail
  go_loopg [9] (8 * bs.length + 1) (fun k v9 wr => ∃ (q : Nat) (o : List Int), 8 * bs.length - q < k ∧ Hid (q ≤ 8 * bs.length) ∧ Hid (blksF bs most (8 * bs.length + 1) out p = blksF bs most k o q) ∧ Hid (IR wr g gr A c bs q most o) ∧ Hid (KT g gr w wr))
  case atStart => exact ⟨p, out, by omega, Lib.hid H.out.rd.le, Lib.hid rfl, H, Lib.hid (KT.refl _ _ _)⟩
  case round =>
    clear H
    obtain ⟨q, o, hk, HQ, HS, H, K⟩ := hrel
    obtain ⟨f, rfl⟩ : ∃ f, gk = f + 1 := ⟨gk - 1, by omega⟩
    have HS2 : Hid (blksF bs most (8 * bs.length + 1) out p = if 8 * bs.length < q + 1 then (o, 0, 55)
      else if 8 * bs.length < q + 3 then (o, 0, 55)
      else if (blockF bs most (numB bs (q + 1) 2) o (q + 3)).2.2 ≠ 0 then blockF bs most (numB bs (q + 1) 2) o (q + 3)
      else if numB bs q 1 = 0 then blksF bs most f (blockF bs most (numB bs (q + 1) 2) o (q + 3)).1 (blockF bs most (numB bs (q + 1) 2) o (q + 3)).2.1
      else blockF bs most (numB bs (q + 1) 2) o (q + 3)) := Lib.hid (by rw [HS.out, blksF])
    clear HS
    go_wp2_with fail
    refine (itake_calls wr g gr A c bs q most o 1 H.out (by omega)).mono ?_
    rintro _ w1 (⟨hf, rfl, h1, k1⟩ | ⟨hf, rfl, h1, k1⟩)
    rotate_left
    · have H1 := Lib.hid h1
      have K1 := Lib.hid (K.out.trans k1)
      have HE : Hid (blksF bs most (8 * bs.length + 1) out p = (o, 0, 55)) := Lib.hid (by rw [HS2.out, if_pos hf])
      clear h1 k1 H K HS2
      go_wp2_with fail
      rw [Exit.noGoto_ret]
      go_ret
      exact part_err HE.out (by decide) H1.out K1.out
    have H1 := Lib.hid h1
    have K1 := Lib.hid (K.out.trans k1)
    clear h1 k1 H K
    obtain ⟨l0, l1⟩ := numB_lt bs q 1
    rw [show (2 : Int) ^ 1 = 2 from rfl] at l1
    obtain ⟨la, hla⟩ : ∃ la, la = numB bs q 1 := ⟨_, rfl⟩
    rw [← hla] at l0 l1 HS2 ⊢
    clear hla
    go_wp2_with fail
    refine (itake_calls w1 g gr A c bs (q + 1) most o 2 H1.out (by omega)).mono ?_
    rintro _ w2 (⟨hf2, rfl, h2, k2⟩ | ⟨hf2, rfl, h2, k2⟩)
    rotate_left
    · have H2 := Lib.hid h2
      have K2 := Lib.hid (K1.out.trans k2)
      have HE : Hid (blksF bs most (8 * bs.length + 1) out p = (o, 0, 55)) := Lib.hid (by rw [HS2.out, if_neg (by omega), if_pos (by omega)])
      clear h2 k2 H1 K1 HS2
      go_wp2_with fail
      rw [Exit.noGoto_ret]
      go_ret
      exact part_err HE.out (by decide) H2.out K2.out
    have H2 := Lib.hid h2
    have K2 := Lib.hid (K1.out.trans k2)
    have HT2 := Lib.hid (tabs_kt HT.out K2.out hg hgr)
    clear h2 k2 H1 K1
    obtain ⟨n0, n1⟩ := numB_lt bs (q + 1) 2
    rw [show (2 : Int) ^ 2 = 4 from rfl] at n1
    obtain ⟨ki, hki⟩ : ∃ ki, ki = numB bs (q + 1) 2 := ⟨_, rfl⟩
    rw [← hki] at n0 n1 HS2 ⊢
    clear hki
    have HS3 := Lib.hid (HS2.out.trans (by rw [if_neg (by omega), if_neg (by omega)]))
    have HQ3 : Hid (q + 3 ≤ 8 * bs.length) := Lib.hid (by omega)
    clear HS2
    go_upto_block 2 with (fail)
    have HB : Hid (blockF bs most ki o (q + 3) = if ki = 0 then storedF bs most o (q + 3)
      else if ki = 1 then symF fixLit fixDist bs most (8 * bs.length + 1) o (q + 3)
      else if ki = 2 then
        if codesE (headF bs (q + 3)) ≠ 0 then (o, 0, codesE (headF bs (q + 3)))
        else symF (headF bs (q + 3)).1 (headF bs (q + 3)).2.1 bs most (8 * bs.length + 1) o (q + 3 + (headF bs (q + 3)).2.2.1)
      else (o, 0, 50)) := Lib.hid rfl
    obtain ⟨br, hbr⟩ : ∃ br, br = blockF bs most ki o (q + 3) := ⟨_, rfl⟩
    have HP : Hid (br.2.2 = 0 → q + 3 ≤ br.2.1 ∧ br.2.1 ≤ 8 * bs.length) := Lib.hid (fun h => by rw [hbr] at h ⊢; exact blockF_pos bs most ki o (q + 3) HQ3.out h)
    rw [← hbr] at HB HS3
    clear hbr
    go_cut [4] (fun v4 wc => ∃ q', v4 = .int .i64 br.2.2 ∧ Hid (br.2.2 = 0 → q' = br.2.1) ∧ Hid (IR wc g gr A c bs q' most br.1) ∧ Hid (KT g gr w wc))
    case first =>
      clear HS3 HP
      by_cases h0 : ki = 0
      · subst h0
        have HB0 := Lib.hid (HB.out.trans (if_pos rfl))
        clear HB
        go_wp2_with fail
        refine (stored_calls w2 g gr A c bs (q + 1 + 2) most o H2.out).mono ?_
        rintro _ w3 ⟨q', rfl, h3, k3, hq3⟩
        have H3 := Lib.hid h3
        have K3 := Lib.hid (K2.out.trans k3)
        have HQ' := Lib.hid hq3
        clear h3 k3 hq3 H2 K2
        rw [show q + 1 + 2 = q + 3 by omega, ← HB0.out] at H3 HQ' ⊢
        generalize br.2.2 = er at *
        go_wp2_with fail
        go_meet
        exact ⟨q', rfl, HQ', H3, K3⟩
      have e0 : (ki == 0) = false := by simpa using h0
      have e0' : decide (ki = 0) = false := by simpa using h0
      by_cases h1 : ki = 1
      · subst h1
        have HB0 := Lib.hid (HB.out.trans ((if_neg (by decide)).trans (if_pos rfl)))
        clear HB
        go_wp2_with fail
        refine (fixed_calls w2).mono ?_
        rintro _ w3 ⟨v1, g2, rfl, ho1, hb2, hg2, hw3⟩
        have hk3 := Keeps.of_below hw3 (S := [])
        have H3 := Lib.hid (H2.out.keeps hk3)
        have K3 := Lib.hid (K2.out.trans (KT.below hw3))
        obtain ⟨A1, c1, rfl, hri1, -, -⟩ := own_ri ho1
        have hri2 : RI .i64 w3 (some ⟨g2, 0, none⟩) 32 fixDist := by
          have := Blk.ri (xs := fixDist) (ys := []) (k := .i64) (by simpa using hb2)
          rwa [fix_info.2.2.2.2] at this
        have HR1 := Lib.hid hri1
        have HR2 := Lib.hid hri2
        clear ho1 hb2 hg2 hw3 hk3 hri1 hri2 H2 K2
        go_wp2_with fail
        refine (symbols_calls w3 g gr A c bs (q + 1 + 2) most o fixLit fixDist A1 (some ⟨g2, 0, none⟩) 288 32 c1 32 H3.out HR1.out HR2.out (by omega) (by omega) (by omega) fix_info.1 (fun _ => fix_info.2.1)).mono ?_
        rintro _ w4 ⟨q', rfl, h4, k4, hq4⟩
        have H4 := Lib.hid h4
        have K4 := Lib.hid (K3.out.trans k4)
        have HQ' := Lib.hid hq4
        clear h4 k4 hq4 H3 K3 HR1 HR2
        rw [show q + 1 + 2 = q + 3 by omega, ← HB0.out] at H4 HQ' ⊢
        generalize br.2.2 = er at *
        go_wp2_with fail
        go_meet
        exact ⟨q', rfl, HQ', H4, K4⟩
      have e1 : (ki == 1) = false := by simpa using h1
      have e1' : decide (ki = 1) = false := by simpa using h1
      by_cases h2 : ki = 2
      · subst h2
        have HB0 := Lib.hid (HB.out.trans ((if_neg (by decide)).trans ((if_neg (by decide)).trans (if_pos rfl))))
        clear HB
        go_wp2_with fail
        refine (head_calls w2 g gr A c bs (q + 1 + 2) most o HT2.out hg H2.out).mono ?_
        have hfull := @head_full bs (q + 1 + 2)
        rw [show q + 1 + 2 = q + 3 by omega] at hfull ⊢
        have hl1 := litF_le bs (q + 3)
        have hl2 := distF_le bs (q + 3)
        have hl3 : 1 ≤ distF bs (q + 3) := by unfold distF; omega
        rintro _ w3 (⟨hne, q', rfl, h3, k3⟩ | ⟨heq, v1, v2, rfl, ho1, ho2, h3, k3⟩)
        · have H3 := Lib.hid h3
          have K3 := Lib.hid (K2.out.trans k3)
          have HB1 := Lib.hid (HB0.out.trans (if_pos hne))
          have HNE : Hid (br.2.2 ≠ 0) := Lib.hid (by rw [HB1.out]; exact hne)
          have e2 : (codesE (headF bs (q + 3)) == 0) = false := by simpa using hne
          have hbe : codesE (headF bs (q + 3)) = br.2.2 := by rw [HB1.out]
          have hbo : o = br.1 := by rw [HB1.out]
          rw [hbo] at H3
          rw [hbe] at e2 ⊢
          clear h3 k3 H2 K2 HB0 HB1 hne hbe hbo hfull
          generalize br.2.2 = er at *
          go_wp2_with fail
          go_meet
          exact ⟨q', rfl, Lib.hid (fun h => absurd h HNE.out), H3, K3⟩
        · have HB1 := Lib.hid (HB0.out.trans (if_neg (by rw [heq]; simp)))
          obtain ⟨hz, hck1, hck2⟩ := codesE_ok heq
          obtain ⟨hf1, hf2⟩ := hfull hz
          have H3 := Lib.hid h3
          have K3 := Lib.hid (K2.out.trans k3)
          obtain ⟨A1, c1, rfl, hri1, -, -⟩ := own_ri ho1
          obtain ⟨A2, c2, rfl, hri2, -, -⟩ := own_ri ho2
          have HR1 := Lib.hid hri1
          have HR2 := Lib.hid hri2
          have HCK1 := Lib.hid hck1
          have HCK2 := Lib.hid hck2
          have b1 : (headF bs (q + 3)).1.length ≤ 288 := by omega
          have b2 : 1 ≤ (headF bs (q + 3)).2.1.length := by omega
          have b3 : (headF bs (q + 3)).2.1.length ≤ 288 := by omega
          clear h3 k3 H2 K2 HB0 ho1 ho2 hri1 hri2 hfull hck1 hck2 hz heq hf1 hf2
          generalize headF bs (q + 3) = hd at *
          obtain ⟨L1, L2, nn, er0⟩ := hd
          simp only [] at H3 HR1 HR2 HCK1 HCK2 b1 b2 b3 HB1 ⊢
          obtain ⟨n1, hn1⟩ : ∃ n, n = L1.length := ⟨_, rfl⟩
          obtain ⟨n2, hn2⟩ : ∃ n, n = L2.length := ⟨_, rfl⟩
          rw [← hn1] at b1 HR1 ⊢
          rw [← hn2] at b2 b3 HR2 ⊢
          clear hn1 hn2
          go_wp2_with fail
          refine (symbols_calls w3 g gr A c bs (q + 3 + nn) most o L1 L2 A1 A2 n1 n2 c1 c2 H3.out HR1.out HR2.out b1 b2 b3 HCK1.out HCK2.out).mono ?_
          rintro _ w4 ⟨q', rfl, h4, k4, hq4⟩
          have H4 := Lib.hid h4
          have K4 := Lib.hid (K3.out.trans k4)
          have HQ' := Lib.hid hq4
          clear h4 k4 hq4 H3 K3 HR1 HR2
          rw [← HB1.out] at H4 HQ' ⊢
          generalize br.2.2 = er at *
          go_wp2_with fail
          go_meet
          exact ⟨q', rfl, HQ', H4, K4⟩
      · obtain rfl : ki = 3 := by omega
        have HB0 := Lib.hid (HB.out.trans ((if_neg (by decide)).trans ((if_neg (by decide)).trans (if_neg (by decide)))))
        have hbo : o = br.1 := by rw [HB0.out]
        have hbe : (50 : Int) = br.2.2 := by rw [HB0.out]
        have HBE := Lib.hid hbe
        rw [hbo] at H2
        clear HB hbo hbe
        go_wp2_with fail
        go_meet
        exact ⟨_, by rw [← HBE.out], Lib.hid (fun h => by have := HBE.out; omega), H2, K2⟩
    case rest =>
      obtain ⟨q', rfl, HQ', H3, K3⟩ := hcut
      clear H2 K2 HB
      obtain ⟨o3, p3, er⟩ := br
      simp only [] at HQ' H3 HP HS3 ⊢
      by_cases her : er = 0
      · subst her
        obtain ⟨a1, a2⟩ := HP.out rfl
        obtain rfl := HQ'.out rfl
        have HS4 : Hid (blksF bs most (8 * bs.length + 1) out p = if la = 0 then blksF bs most f o3 q' else (o3, q', 0)) := Lib.hid (by rw [HS3.out, if_neg (by simp)])
        clear HS3 HP HQ'
        by_cases hla : la = 0
        · subst hla
          have HE := Lib.hid (HS4.out.trans (if_pos rfl))
          clear HS4
          go_wp2_with fail
          go_roundg f
          case measure => omega
          case rel => exact ⟨q', o3, by omega, Lib.hid a2, HE, H3, K3⟩
        · have e5 : (la == 0) = false := by simpa using hla
          have HE := Lib.hid (HS4.out.trans (if_neg hla))
          clear HS4 hla
          go_wp2_with fail
          rw [Exit.noGoto_ret]
          go_ret
          exact part_ok HE.out H3.out K3.out
      · have e5 : (er != 0) = true := by simpa using her
        have HE : Hid (blksF bs most (8 * bs.length + 1) out p = (o3, p3, er)) := Lib.hid (by rw [HS3.out, if_pos her])
        have HER := Lib.hid her
        clear HS3 HP HQ' her
        go_wp2_with fail
        rw [Exit.noGoto_ret]
        go_ret
        exact ⟨q', by rw [HE.out]; rfl, by rw [HE.out]; exact H3.out, K3.out, fun h => by rw [HE.out] at h; exact absurd h HER.out⟩
end Go.Proofs.YtcblibefmclloaaDoor

set_option linter.unusedVariables false
set_option linter.unusedSimpArgs false
/-! Plain: what is inflated needs no more bytes than it takes; a limit that is not met does not matter. -/
namespace Go.Proofs.YtcblibefmclloaaDoor
theorem storF_cut (bs m : List Int) (most : Nat) : ∀ n out p, (storF (bs ++ m) most n out p).2.2 = 0 → p ≤ 8 * bs.length → (storF (bs ++ m) most n out p).2.1 ≤ 8 * bs.length → storF bs most n out p = storF (bs ++ m) most n out p
  | 0, out, p, _, _, _ => rfl
  | n + 1, out, p, h, hp, hq => by
    have hl := len_pre bs m
    rw [storF] at h hq
    by_cases h1 : 8 * (bs ++ m).length < p + 8
    · rw [if_pos h1] at h; simp at h
    rw [if_neg h1] at h hq
    by_cases h2 : most ≤ out.length
    · rw [if_pos h2] at h; simp at h
    rw [if_neg h2] at h hq
    have := storF_pos (bs ++ m) most n _ (p + 8) (by omega) h
    rw [storF, storF, if_neg h1, if_neg (show ¬ 8 * bs.length < p + 8 by omega), if_neg h2, if_neg h2, ← numB_pre bs m p 8 (by omega)]
    exact storF_cut bs m most n _ _ h (by omega) hq
theorem storedF_cut (bs m : List Int) (most : Nat) (out : List Int) (p : Nat) (h : (storedF (bs ++ m) most out p).2.2 = 0) (hq : (storedF (bs ++ m) most out p).2.1 ≤ 8 * bs.length) : storedF bs most out p = storedF (bs ++ m) most out p := by
  have hl := len_pre bs m
  unfold storedF at h hq
  by_cases h1 : 8 * (bs ++ m).length < alignF p + 16
  · rw [if_pos h1] at h; simp at h
  rw [if_neg h1] at h hq
  by_cases h2 : 8 * (bs ++ m).length < alignF p + 32
  · rw [if_pos h2] at h; simp at h
  rw [if_neg h2] at h hq
  by_cases h3 : numB (bs ++ m) (alignF p) 16 + numB (bs ++ m) (alignF p + 16) 16 ≠ 65535
  · rw [if_pos h3] at h; simp at h
  rw [if_neg h3] at h hq
  have := storF_pos (bs ++ m) most _ _ (alignF p + 32) (by omega) h
  unfold storedF
  rw [if_neg h1, if_neg h2, if_neg h3, if_neg (by omega), if_neg (by omega), ← numB_pre bs m (alignF p) 16 (by omega), ← numB_pre bs m (alignF p + 16) 16 (by omega), if_neg h3]
  exact storF_cut bs m most _ _ _ h (by omega) hq
theorem copyF_cut (dist bs m : List Int) (most s : Nat) (out : List Int) (p : Nat) (h : (copyF dist (bs ++ m) most s out p).2.2 = 0) (hq : (copyF dist (bs ++ m) most s out p).2.1 ≤ 8 * bs.length) : copyF dist bs most s out p = copyF dist (bs ++ m) most s out p := by
  have hl := len_pre bs m
  unfold copyF at h hq
  by_cases h1 : 285 < s
  · rw [if_pos h1] at h; simp at h
  rw [if_neg h1] at h hq
  by_cases h2 : 8 * (bs ++ m).length < p + lenK s
  · rw [if_pos h2] at h; simp at h
  rw [if_neg h2] at h hq
  by_cases h3 : anyUsed dist = false
  · rw [if_pos h3] at h; simp at h
  rw [if_neg h3] at h hq
  by_cases h4 : (decF dist (bs ++ m) (p + lenK s)).2.1 ≠ 0
  · rw [if_pos h4] at h; exact absurd (endF_zero (by decide) h) h4
  rw [if_neg h4] at h hq
  by_cases h5 : 29 < (decF dist (bs ++ m) (p + lenK s)).1
  · rw [if_pos h5] at h; simp at h
  rw [if_neg h5] at h hq
  by_cases h6 : 8 * (bs ++ m).length < p + lenK s + (decF dist (bs ++ m) (p + lenK s)).2.2 + distK (decF dist (bs ++ m) (p + lenK s)).1.toNat
  · rw [if_pos h6] at h; simp at h
  rw [if_neg h6] at h hq
  have hk : p + lenK s + (decF dist (bs ++ m) (p + lenK s)).2.2 + distK (decF dist (bs ++ m) (p + lenK s)).1.toNat ≤ 8 * bs.length := by
    split at h
    · simp at h
    next h7 =>
    rw [if_neg h7] at hq
    split at h
    · simp at h
    next h8 =>
    rw [if_neg h8] at hq
    exact hq
  have hd := decF_cut dist bs m (p + lenK s) (by omega) (by omega)
  unfold copyF
  rw [hd, if_neg h1, if_neg h2, if_neg h3, if_neg h4, if_neg h5, if_neg h6, if_neg h1, if_neg (show ¬ 8 * bs.length < p + lenK s by omega), if_neg h3, if_neg h4, if_neg h5,
    if_neg (show ¬ 8 * bs.length < p + lenK s + (decF dist (bs ++ m) (p + lenK s)).2.2 + distK (decF dist (bs ++ m) (p + lenK s)).1.toNat by omega),
    numB_pre bs m p (lenK s) (by omega), numB_pre bs m _ (distK (decF dist (bs ++ m) (p + lenK s)).1.toNat) (by omega)]
theorem symF_cut (lit dist bs m : List Int) (most : Nat) : ∀ f f' out p, p ≤ 8 * bs.length → 8 * bs.length - p < f → 8 * (bs ++ m).length - p < f' → (symF lit dist (bs ++ m) most f' out p).2.2 = 0 → (symF lit dist (bs ++ m) most f' out p).2.1 ≤ 8 * bs.length →
    symF lit dist bs most f out p = symF lit dist (bs ++ m) most f' out p
  | 0, f', out, p, _, h, _, _, _ => by omega
  | f + 1, 0, out, p, _, _, h, _, _ => by omega
  | f + 1, f' + 1, out, p, hp, hf, hf', h, hq => by
    have hl := len_pre bs m
    rw [symF] at h hq
    by_cases h1 : (decF lit (bs ++ m) p).2.1 ≠ 0
    · rw [if_pos h1] at h; exact absurd (endF_zero (by decide) h) h1
    rw [if_neg h1] at h hq
    obtain ⟨a1, a2, -⟩ := dec_adv lit (bs ++ m) p (by omega) (by omega)
    have key : p + (decF lit (bs ++ m) p).2.2 ≤ 8 * bs.length → decF lit bs p = decF lit (bs ++ m) p := fun hk => decF_cut lit bs m p (by omega) hk
    by_cases h2 : (decF lit (bs ++ m) p).1 = 256
    · rw [if_pos h2] at h hq
      rw [symF, symF, key hq, if_neg h1, if_neg h1, if_pos h2, if_pos h2]
    rw [if_neg h2] at h hq
    by_cases h3 : (decF lit (bs ++ m) p).1 < 256
    · rw [if_pos h3] at h hq
      by_cases h4 : most ≤ out.length
      · rw [if_pos h4] at h; simp at h
      rw [if_neg h4] at h hq
      have := symF_pos lit dist (bs ++ m) most f' _ _ a2 h
      rw [symF, symF, key (by omega), if_neg h1, if_neg h1, if_neg h2, if_neg h2, if_pos h3, if_pos h3, if_neg h4, if_neg h4]
      exact symF_cut lit dist bs m most f f' _ _ (by omega) (by omega) (by omega) h hq
    rw [if_neg h3] at h hq
    by_cases h5 : (copyF dist (bs ++ m) most (decF lit (bs ++ m) p).1.toNat out (p + (decF lit (bs ++ m) p).2.2)).2.2 ≠ 0
    · rw [if_pos h5] at h; exact absurd h h5
    rw [if_neg h5] at h hq
    obtain ⟨b1, b2⟩ := copyF_pos dist (bs ++ m) most (decF lit (bs ++ m) p).1.toNat out _ a2 (by omega)
    have := symF_pos lit dist (bs ++ m) most f' _ _ b2 h
    have hc := copyF_cut dist bs m most (decF lit (bs ++ m) p).1.toNat out (p + (decF lit (bs ++ m) p).2.2) (by omega) (by omega)
    rw [symF, symF, key (by omega), if_neg h1, if_neg h1, if_neg h2, if_neg h2, if_neg h3, if_neg h3, hc, if_neg h5, if_neg h5]
    exact symF_cut lit dist bs m most f f' _ _ (by omega) (by omega) (by omega) h hq
theorem blockF_cut (bs m : List Int) (most : Nat) (kind : Int) (out : List Int) (p : Nat) (hp : p ≤ 8 * bs.length) (h : (blockF (bs ++ m) most kind out p).2.2 = 0) (hq : (blockF (bs ++ m) most kind out p).2.1 ≤ 8 * bs.length) :
    blockF bs most kind out p = blockF (bs ++ m) most kind out p := by
  have hl := len_pre bs m
  unfold blockF at h hq
  by_cases h1 : kind = 0
  · rw [if_pos h1] at h hq
    unfold blockF
    rw [if_pos h1, if_pos h1]; exact storedF_cut bs m most out p h hq
  rw [if_neg h1] at h hq
  by_cases h2 : kind = 1
  · rw [if_pos h2] at h hq
    unfold blockF
    rw [if_neg h1, if_neg h1, if_pos h2, if_pos h2]; exact symF_cut _ _ bs m most _ _ out p hp (by omega) (by omega) h hq
  rw [if_neg h2] at h hq
  by_cases h3 : kind = 2
  · rw [if_pos h3] at h hq
    by_cases h4 : codesE (headF (bs ++ m) p) ≠ 0
    · rw [if_pos h4] at h; exact absurd h h4
    rw [if_neg h4] at h hq
    have ha := headF_adv (bs ++ m) p (codesE_zero (by omega))
    have := symF_pos _ _ _ _ _ _ _ ha h
    have hc := headF_cut bs m p (codesE_zero (by omega)) (by omega)
    unfold blockF
    rw [if_neg h1, if_neg h1, if_neg h2, if_neg h2, if_pos h3, if_pos h3, hc, if_neg h4, if_neg h4]
    exact symF_cut _ _ bs m most _ _ out _ (by omega) (by omega) (by omega) h hq
  · rw [if_neg h3] at h; simp at h
theorem blksF_cut (bs m : List Int) (most : Nat) : ∀ f f' out p, p ≤ 8 * bs.length → 8 * bs.length - p < f → 8 * (bs ++ m).length - p < f' → (blksF (bs ++ m) most f' out p).2.2 = 0 → (blksF (bs ++ m) most f' out p).2.1 ≤ 8 * bs.length →
    blksF bs most f out p = blksF (bs ++ m) most f' out p
  | 0, f', out, p, _, h, _, _, _ => by omega
  | f + 1, 0, out, p, _, _, h, _, _ => by omega
  | f + 1, f' + 1, out, p, hp, hf, hf', h, hq => by
    have hl := len_pre bs m
    rw [blksF] at h hq
    by_cases h1 : 8 * (bs ++ m).length < p + 1
    · rw [if_pos h1] at h; simp at h
    rw [if_neg h1] at h hq
    by_cases h2 : 8 * (bs ++ m).length < p + 3
    · rw [if_pos h2] at h; simp at h
    rw [if_neg h2] at h hq
    by_cases h3 : (blockF (bs ++ m) most (numB (bs ++ m) (p + 1) 2) out (p + 3)).2.2 ≠ 0
    · rw [if_pos h3] at h; exact absurd h h3
    rw [if_neg h3] at h hq
    obtain ⟨b1, b2⟩ := blockF_pos (bs ++ m) most (numB (bs ++ m) (p + 1) 2) out (p + 3) (by omega) (by omega)
    have hk : (blockF (bs ++ m) most (numB (bs ++ m) (p + 1) 2) out (p + 3)).2.1 ≤ 8 * bs.length := by
      split at h
      · next h4 =>
        rw [if_pos h4] at hq
        have := blksF_pos (bs ++ m) most f' _ _ b2 h
        omega
      · next h4 => rw [if_neg h4] at hq; exact hq
    have hb := blockF_cut bs m most (numB (bs ++ m) (p + 1) 2) out (p + 3) (by omega) (by omega) hk
    rw [blksF, blksF, if_neg h1, if_neg h2, if_neg (show ¬ 8 * bs.length < p + 1 by omega), if_neg (show ¬ 8 * bs.length < p + 3 by omega), ← numB_pre bs m (p + 1) 2 (by omega), ← numB_pre bs m p 1 (by omega), hb, if_neg h3, if_neg h3]
    by_cases h4 : numB (bs ++ m) p 1 = 0
    · rw [if_pos h4] at h hq
      rw [if_pos h4, if_pos h4]
      exact blksF_cut bs m most f f' _ _ hk (by omega) (by omega) h hq
    · rw [if_neg h4, if_neg h4]
theorem inflF_cut (bs m : List Int) (most : Nat) (h : (inflF (bs ++ m) most).2.2 = 0) (hq : (inflF (bs ++ m) most).2.1 ≤ 8 * bs.length) : inflF bs most = inflF (bs ++ m) most :=
  blksF_cut bs m most _ _ _ _ (Nat.zero_le _) (by omega) (by omega) h hq
/-! Limits. -/
theorem grow_lt {out r : List Int} {x : Int} {M : Nat} (h : out ++ [x] <+: r) (hM : r.length ≤ M) : ¬ M ≤ out.length := by
  have := h.length_le
  rw [List.length_append, List.length_singleton] at this
  omega
theorem storF_most (bs : List Int) (most M : Nat) : ∀ n out p, (storF bs most n out p).2.2 = 0 → (storF bs most n out p).1.length ≤ M → storF bs M n out p = storF bs most n out p
  | 0, out, p, _, _ => rfl
  | n + 1, out, p, h, hM => by
    rw [storF] at h hM
    rw [storF, storF]
    split
    · rfl
    next h1 =>
    rw [if_neg h1] at h hM
    by_cases h2 : most ≤ out.length
    · rw [if_pos h2] at h; simp at h
    rw [if_neg h2] at h hM
    rw [if_neg h2, if_neg (grow_lt (storF_grow _ _ _ _ _) hM)]
    exact storF_most bs most M n _ _ h hM
theorem layN_most (far most M : Nat) : ∀ n out, (layN far most n out).2 = 0 → (layN far most n out).1.length ≤ M → layN far M n out = layN far most n out
  | 0, out, _, _ => rfl
  | n + 1, out, h, hM => by
    rw [layN] at h hM
    rw [layN, layN]
    by_cases h2 : most ≤ out.length
    · rw [if_pos h2] at h; simp at h
    rw [if_neg h2] at h hM
    rw [if_neg h2, if_neg (grow_lt (layN_grow _ _ _ _) hM)]
    exact layN_most far most M n _ h hM
theorem copyF_most (dist bs : List Int) (most M s : Nat) (out : List Int) (p : Nat) (h : (copyF dist bs most s out p).2.2 = 0) (hM : (copyF dist bs most s out p).1.length ≤ M) : copyF dist bs M s out p = copyF dist bs most s out p := by
  unfold copyF at h hM
  by_cases h1 : 285 < s
  · rw [if_pos h1] at h; simp at h
  rw [if_neg h1] at h hM
  by_cases h2 : 8 * bs.length < p + lenK s
  · rw [if_pos h2] at h; simp at h
  rw [if_neg h2] at h hM
  by_cases h3 : anyUsed dist = false
  · rw [if_pos h3] at h; simp at h
  rw [if_neg h3] at h hM
  by_cases h4 : (decF dist bs (p + lenK s)).2.1 ≠ 0
  · rw [if_pos h4] at h; exact absurd (endF_zero (by decide) h) h4
  rw [if_neg h4] at h hM
  by_cases h5 : 29 < (decF dist bs (p + lenK s)).1
  · rw [if_pos h5] at h; simp at h
  rw [if_neg h5] at h hM
  by_cases h6 : 8 * bs.length < p + lenK s + (decF dist bs (p + lenK s)).2.2 + distK (decF dist bs (p + lenK s)).1.toNat
  · rw [if_pos h6] at h; simp at h
  rw [if_neg h6] at h hM
  unfold copyF
  rw [if_neg h1, if_neg h2, if_neg h3, if_neg h4, if_neg h5, if_neg h6, if_neg h1, if_neg h2, if_neg h3, if_neg h4, if_neg h5, if_neg h6]
  split
  · rfl
  next h7 =>
  rw [if_neg h7] at h hM
  generalize ((distBase (decF dist bs (p + lenK s)).1.toNat : Int) + numB bs (p + lenK s + (decF dist bs (p + lenK s)).2.2) (distK (decF dist bs (p + lenK s)).1.toNat)).toNat = far at *
  generalize lenBase s + (numB bs p (lenK s)).toNat = n at *
  by_cases h8 : (layN far most n out).2 ≠ 0
  · rw [if_pos h8] at h; simp at h
  rw [if_neg h8] at hM
  rw [layN_most far most M n out (by omega) hM]
theorem symF_most (lit dist bs : List Int) (most M : Nat) : ∀ f out p, (symF lit dist bs most f out p).2.2 = 0 → (symF lit dist bs most f out p).1.length ≤ M → symF lit dist bs M f out p = symF lit dist bs most f out p
  | 0, out, p, _, _ => rfl
  | f + 1, out, p, h, hM => by
    rw [symF] at h hM
    by_cases h1 : (decF lit bs p).2.1 ≠ 0
    · rw [if_pos h1] at h; exact absurd (endF_zero (by decide) h) h1
    rw [if_neg h1] at h hM
    by_cases h2 : (decF lit bs p).1 = 256
    · rw [symF, symF, if_neg h1, if_neg h1, if_pos h2, if_pos h2]
    rw [if_neg h2] at h hM
    by_cases h3 : (decF lit bs p).1 < 256
    · rw [if_pos h3] at h hM
      by_cases h4 : most ≤ out.length
      · rw [if_pos h4] at h; simp at h
      rw [if_neg h4] at h hM
      rw [symF, symF, if_neg h1, if_neg h1, if_neg h2, if_neg h2, if_pos h3, if_pos h3, if_neg h4, if_neg (grow_lt (symF_grow _ _ _ _ _ _ _) hM)]
      exact symF_most lit dist bs most M f _ _ h hM
    rw [if_neg h3] at h hM
    by_cases h5 : (copyF dist bs most (decF lit bs p).1.toNat out (p + (decF lit bs p).2.2)).2.2 ≠ 0
    · rw [if_pos h5] at h; exact absurd h h5
    rw [if_neg h5] at h hM
    have hg := (symF_grow lit dist bs most f (copyF dist bs most (decF lit bs p).1.toNat out (p + (decF lit bs p).2.2)).1 (copyF dist bs most (decF lit bs p).1.toNat out (p + (decF lit bs p).2.2)).2.1).length_le
    have hc := copyF_most dist bs most M (decF lit bs p).1.toNat out (p + (decF lit bs p).2.2) (by omega) (by omega)
    rw [symF, symF, if_neg h1, if_neg h1, if_neg h2, if_neg h2, if_neg h3, if_neg h3, hc, if_neg h5, if_neg h5]
    exact symF_most lit dist bs most M f _ _ h hM
theorem blockF_most (bs : List Int) (most M : Nat) (kind : Int) (out : List Int) (p : Nat) (h : (blockF bs most kind out p).2.2 = 0) (hM : (blockF bs most kind out p).1.length ≤ M) : blockF bs M kind out p = blockF bs most kind out p := by
  unfold blockF at h hM
  by_cases h1 : kind = 0
  · rw [if_pos h1] at h hM
    unfold blockF
    rw [if_pos h1, if_pos h1]
    unfold storedF at h hM ⊢
    split
    · rfl
    next g1 =>
    rw [if_neg g1] at h hM
    split
    · rfl
    next g2 =>
    rw [if_neg g2] at h hM
    split
    · rfl
    next g3 =>
    rw [if_neg g3] at h hM
    exact storF_most bs most M _ _ _ h hM
  rw [if_neg h1] at h hM
  by_cases h2 : kind = 1
  · rw [if_pos h2] at h hM
    unfold blockF
    rw [if_neg h1, if_neg h1, if_pos h2, if_pos h2]; exact symF_most _ _ bs most M _ out p h hM
  rw [if_neg h2] at h hM
  by_cases h3 : kind = 2
  · rw [if_pos h3] at h hM
    by_cases h4 : codesE (headF bs p) ≠ 0
    · rw [if_pos h4] at h; exact absurd h h4
    rw [if_neg h4] at h hM
    unfold blockF
    rw [if_neg h1, if_neg h1, if_neg h2, if_neg h2, if_pos h3, if_pos h3, if_neg h4, if_neg h4]
    exact symF_most _ _ bs most M _ out _ h hM
  · rw [if_neg h3] at h; simp at h
theorem blksF_most (bs : List Int) (most M : Nat) : ∀ f out p, (blksF bs most f out p).2.2 = 0 → (blksF bs most f out p).1.length ≤ M → blksF bs M f out p = blksF bs most f out p
  | 0, out, p, _, _ => rfl
  | f + 1, out, p, h, hM => by
    rw [blksF] at h hM
    by_cases h1 : 8 * bs.length < p + 1
    · rw [if_pos h1] at h; simp at h
    rw [if_neg h1] at h hM
    by_cases h2 : 8 * bs.length < p + 3
    · rw [if_pos h2] at h; simp at h
    rw [if_neg h2] at h hM
    by_cases h3 : (blockF bs most (numB bs (p + 1) 2) out (p + 3)).2.2 ≠ 0
    · rw [if_pos h3] at h; exact absurd h h3
    rw [if_neg h3] at h hM
    have hk : (blockF bs most (numB bs (p + 1) 2) out (p + 3)).1.length ≤ M := by
      split at hM
      · exact Nat.le_trans (blksF_grow bs most f _ _).length_le hM
      · exact hM
    have hb := blockF_most bs most M (numB bs (p + 1) 2) out (p + 3) (by omega) hk
    rw [blksF, blksF, if_neg h1, if_neg h1, if_neg h2, if_neg h2, hb, if_neg h3, if_neg h3]
    by_cases h4 : numB bs p 1 = 0
    · rw [if_pos h4] at h hM
      rw [if_pos h4, if_pos h4]
      exact blksF_most bs most M f _ _ h hM
    · rw [if_neg h4, if_neg h4]
theorem inflF_most (bs : List Int) (most M : Nat) (h : (inflF bs most).2.2 = 0) (hM : (inflF bs most).1.length ≤ M) : inflF bs M = inflF bs most := blksF_most bs most M _ _ _ h hM
/-! No more is laid than may be. -/
theorem storF_le (bs : List Int) (most : Nat) : ∀ n out p, out.length ≤ most → (storF bs most n out p).1.length ≤ most
  | 0, out, p, h => h
  | n + 1, out, p, h => by
    rw [storF]
    split
    · exact h
    split
    · exact h
    · exact storF_le bs most n _ _ (by rw [List.length_append, List.length_singleton]; omega)
theorem layN_le (far most : Nat) : ∀ n out, out.length ≤ most → (layN far most n out).1.length ≤ most
  | 0, out, h => h
  | n + 1, out, h => by
    rw [layN]
    split
    · exact h
    · exact layN_le far most n _ (by rw [List.length_append, List.length_singleton]; omega)
theorem copyF_le (dist bs : List Int) (most s : Nat) (out : List Int) (p : Nat) (h : out.length ≤ most) : (copyF dist bs most s out p).1.length ≤ most := by
  unfold copyF
  repeat' split
  all_goals first | exact h | exact layN_le _ _ _ _ h
theorem symF_le (lit dist bs : List Int) (most : Nat) : ∀ f out p, out.length ≤ most → (symF lit dist bs most f out p).1.length ≤ most
  | 0, out, p, h => h
  | f + 1, out, p, h => by
    rw [symF]
    split
    · exact h
    split
    · exact h
    split
    · split
      · exact h
      · exact symF_le lit dist bs most f _ _ (by rw [List.length_append, List.length_singleton]; omega)
    split
    · exact copyF_le _ _ _ _ _ _ h
    · exact symF_le lit dist bs most f _ _ (copyF_le _ _ _ _ _ _ h)
theorem blockF_le (bs : List Int) (most : Nat) (kind : Int) (out : List Int) (p : Nat) (h : out.length ≤ most) : (blockF bs most kind out p).1.length ≤ most := by
  unfold blockF
  split
  · unfold storedF
    repeat' split
    all_goals first | exact h | exact storF_le _ _ _ _ _ h
  split
  · exact symF_le _ _ _ _ _ _ _ h
  split
  · split
    · exact h
    · exact symF_le _ _ _ _ _ _ _ h
  · exact h
theorem blksF_le (bs : List Int) (most : Nat) : ∀ f out p, out.length ≤ most → (blksF bs most f out p).1.length ≤ most
  | 0, out, p, h => h
  | f + 1, out, p, h => by
    rw [blksF]
    split
    · exact h
    split
    · exact h
    split
    · exact blockF_le _ _ _ _ _ h
    split
    · exact blksF_le bs most f _ _ (blockF_le _ _ _ _ _ h)
    · exact blockF_le _ _ _ _ _ h
theorem inflF_le (bs : List Int) (most : Nat) : (inflF bs most).1.length ≤ most := blksF_le _ _ _ _ _ (Nat.zero_le _)
/-! What the laws ask of it. -/
theorem inflR_ok {bs : List Int} {most : Int} (h : (inflR bs most).2.2 = 0) : 0 ≤ most ∧ most ≤ 16384 ∧ (inflF bs most.toNat).2.2 = 0 ∧ inflR bs most = ((inflF bs most.toNat).1, ((inflF bs most.toNat).2.1 + 7) / 8, 0) := by
  unfold inflR at h ⊢
  split
  · next h1 => rw [if_pos h1] at h; simp at h
  next h1 =>
  rw [if_neg h1] at h
  split
  · next h2 => rw [if_pos h2] at h; exact absurd h h2
  · next h2 => exact ⟨by omega, by omega, by omega, rfl⟩
theorem inflR_of {bs : List Int} {most : Int} (h0 : 0 ≤ most) (h1 : most ≤ 16384) (h : (inflF bs most.toNat).2.2 = 0) : inflR bs most = ((inflF bs most.toNat).1, ((inflF bs most.toNat).2.1 + 7) / 8, 0) := by
  unfold inflR; rw [if_neg (by omega), if_neg (by omega)]
theorem inflR_bad {bs : List Int} {most : Int} (h : (inflR bs most).2.2 ≠ 0) : (inflR bs most).1 = [] ∧ (inflR bs most).2.1 = 0 := by
  unfold inflR at h ⊢
  split
  · exact ⟨rfl, rfl⟩
  next h1 =>
  rw [if_neg h1] at h
  split
  · exact ⟨rfl, rfl⟩
  · next h2 => rw [if_neg h2] at h; exact absurd rfl h
theorem inflR_behind {bs m : List Int} {most : Int} (h : (inflR bs most).2.2 = 0) : inflR (bs ++ m) most = inflR bs most := by
  obtain ⟨h0, h1, h2, h3⟩ := inflR_ok h
  have he := (inflF_ext bs m most.toNat).1 (by rw [h2]; decide)
  rw [h3, inflR_of h0 h1 (by rw [he]; exact h2), he]
theorem inflR_le {bs : List Int} {most : Int} (h : (inflR bs most).2.2 = 0) : (inflR bs most).2.1 ≤ bs.length ∧ ((inflR bs most).1.length : Int) ≤ most := by
  obtain ⟨h0, h1, h2, h3⟩ := inflR_ok h
  have := inflF_pos bs most.toNat h2
  have := inflF_le bs most.toNat
  rw [h3]
  simp only []
  omega
theorem inflR_just {bs : List Int} {most : Int} (h : (inflR bs most).2.2 = 0) : inflR (bs.take (inflR bs most).2.1) ((inflR bs most).1.length : Int) = inflR bs most := by
  obtain ⟨h0, h1, h2, h3⟩ := inflR_ok h
  have h4 := inflF_pos bs most.toNat h2
  have h5 := inflF_le bs most.toNat
  rw [h3]
  simp only []
  have hs : bs = bs.take (((inflF bs most.toNat).2.1 + 7) / 8) ++ bs.drop (((inflF bs most.toNat).2.1 + 7) / 8) := (List.take_append_drop _ _).symm
  have hl : (bs.take (((inflF bs most.toNat).2.1 + 7) / 8)).length = ((inflF bs most.toNat).2.1 + 7) / 8 := by rw [List.length_take]; omega
  have hc : inflF (bs.take (((inflF bs most.toNat).2.1 + 7) / 8)) most.toNat = inflF bs most.toNat := by
    have := inflF_cut (bs.take (((inflF bs most.toNat).2.1 + 7) / 8)) (bs.drop (((inflF bs most.toNat).2.1 + 7) / 8)) most.toNat (by rw [← hs]; exact h2) (by rw [← hs, hl]; omega)
    rwa [← hs] at this
  have hm : inflF (bs.take (((inflF bs most.toNat).2.1 + 7) / 8)) (inflF bs most.toNat).1.length = inflF bs most.toNat := by
    rw [inflF_most (bs.take (((inflF bs most.toNat).2.1 + 7) / 8)) most.toNat _ (by rw [hc]; exact h2) (by rw [hc]; exact Nat.le_refl _), hc]
  rw [inflR_of (by omega) (by omega) (by rw [Int.toNat_natCast, hm]; exact h2), Int.toNat_natCast, hm]
theorem inflR_more {bs : List Int} {most more : Int} (h : (inflR bs most).2.2 = 0) (h1 : most ≤ more) (h2 : more ≤ 16384) : inflR bs more = inflR bs most := by
  obtain ⟨h0, h3, h4, h5⟩ := inflR_ok h
  have h6 := inflF_le bs most.toNat
  have hm := inflF_most bs most.toNat more.toNat h4 (by omega)
  rw [h5, inflR_of (by omega) h2 (by rw [hm]; exact h4), hm]
end Go.Proofs.YtcblibefmclloaaDoor

set_option linter.unusedVariables false
set_option linter.unusedSimpArgs false
namespace Go.Proofs.YtcblibefmclloaaDoor
open Go.RowKit
/-- 's[l:]': where it begins. -/
def cutA (A : Option Addr) (l c : Nat) : Option Addr := if c = l then A else A.map (·.add l)
theorem cutA_nil {A : Option Addr} {l c n : Nat} (h : A = none → n = 0 ∧ c = 0) : cutA A l c = none → n - l = 0 ∧ c - l = 0 := by
  unfold cutA
  intro e
  have : A = none := by
    split at e
    · exact e
    · simpa using e
  have := h this
  omega
theorem cutA_pl {A : Option Addr} {l c : Nat} (h : ∀ ad, A = some ad → ∃ b o, ad = ⟨b, o, none⟩) : ∀ ad, cutA A l c = some ad → ∃ b o, ad = ⟨b, o, none⟩ := by
  intro ad e
  unfold cutA at e
  split at e
  · exact h ad e
  · obtain ⟨a, ha, rfl⟩ := Option.map_eq_some_iff.1 e
    obtain ⟨b, o, rfl⟩ := h a ha
    exact ⟨b, o + l, add_plain2 b o l⟩
theorem cutA_blk {A : Option Addr} {l c : Nat} (h : ∀ ad, A = some ad → ∃ b o, ad = ⟨b, o, none⟩) : ∀ ad, cutA A l c = some ad → ∃ a, A = some a ∧ ad.block = a.block := by
  intro ad e
  unfold cutA at e
  split at e
  · exact ⟨ad, e, rfl⟩
  · obtain ⟨a, ha, rfl⟩ := Option.map_eq_some_iff.1 e
    obtain ⟨b, o, rfl⟩ := h a ha
    exact ⟨_, ha, by rw [add_plain2]⟩
theorem RI.cut {k : IntKind} {w : World} {A : Option Addr} {n c : Nat} {xs : List Int} (h : RI k w A n xs) (hpl : ∀ ad, A = some ad → ∃ b o, ad = ⟨b, o, none⟩) {l : Nat} (hl : l ≤ n) (hc : n ≤ c) : RI k w (cutA A l c) (n - l) (xs.drop l) := by
  have hlen := h.len
  refine ⟨by rw [List.length_drop, hlen], fun hp => ?_, fun b o ha j hj => ?_⟩
  · obtain ⟨b, o, rfl⟩ := h.hd (by omega)
    unfold cutA
    rw [if_neg (by omega)]
    exact ⟨b, o + l, by simp [add_plain2]⟩
  · unfold cutA at ha
    rw [if_neg (by omega)] at ha
    obtain ⟨b', o', rfl⟩ := h.hd (by omega)
    simp [add_plain2] at ha
    obtain ⟨rfl, rfl⟩ := ha
    rw [Nat.add_assoc, h.cell b' o' rfl (l + j) (by omega)]
    simp [nth, List.getD]
theorem slice_from8 (w : World) (A : Option Addr) (n c l : Nat) (li : Int) (hli : li = l) (hl : l ≤ n) :
    (Instr.slice 37 (.slice A n c) (some (.int .i64 li)) none none).run Tryd.prog w = .ok (.slice (cutA A l c) (n - l) (c - l)) w := by
  subst hli
  rw [run_slice_l w 37 A n c (by kernel_rfl) .i64 l (by omega) (by omega)]
  have hs : (sizeOf (Tryd.prog.elem 37)).run Tryd.prog w = .ok 1 w := by kernel_rfl
  rw [hs]
  simp [Result.andThen, sliced, cutA]
theorem bclone_calls (w : World) (A : Option Addr) (n c : Nat) (xs : List Int) (hx : RI .u8 w A n xs) (hnil : A = none → n = 0 ∧ c = 0) (hn : n ≤ 4000000000) :
    Calls Tryd.prog 65 #[.slice A n c] w fun e w' => ∃ v, e = .returned v ∧ w'.ownsRow w.heap.size 5 1 v n (ints .u8 xs) ∧ Below w.heap.size w w' := by
  have HX := Lib.hid hx
  have HN := Lib.hid hnil
  clear hx hnil
  go_enter Tryd.func65, Tryd.ntmps65
  cases A with
  | none =>
    obtain ⟨rfl, rfl⟩ := HN.out rfl
    obtain rfl : xs = [] := List.eq_nil_of_length_eq_zero HX.out.len
    have hq := fun w => Lib.run_eql_slice_nil (P := Tryd.prog) w 37 5 none 0 0 0 0 Tryd.underlying37
    go_wp2_with fail
    go_ret
    exact ⟨_, rfl, World.ownsRow_nil _ _ _ _, Below.refl _ _⟩
  | some ad =>
    have hq := fun w => Lib.run_eql_slice_nil (P := Tryd.prog) w 37 5 (some ad) n c 0 0 Tryd.underlying37
    have HO : Hid ((w.alloc (.cells #[] 5)).ownsRow w.heap.size 5 1 (.slice (some ⟨w.heap.size, 0, none⟩) 0 0) 0 (ints .u8 [])) := Lib.hid (World.ownsRow_lit w #[] 0 (Nat.le_refl _) (by decide) rfl)
    have HR := Lib.hid (HX.out.keeps ((Keeps.refl [] w).alloc (.cells #[] 5)) (off_nil _))
    go_wp2_with (at_builtin; refine app_bytes rfl (.tmp 5) (.tmp 6) rfl w.heap.size _ _ [] rfl (by exact HO.out) (some ad) n c xs rfl (by exact HR.out) (by simp) (by omega) (by simp) ?_)
    intro v1 w1 ho1 hg1
    have HB1 := Lib.hid ((((Below.refl w.heap.size w).alloc (Nat.le_refl _) (.cells #[] 5))).grown hg1 (by simp) (fun k hk => (HO.out.lt k hk).1))
    have HO1 := Lib.hid ho1
    clear ho1 hg1
    go_wp2_with fail
    go_ret
    exact ⟨_, rfl, by simpa using HO1.out, HB1.out⟩
/-- What reading all gives. -/
def ReadI (w : World) (bs : List Int) (most : Nat) (r : IRes) (e : Ending) (w' : World) : Prop :=
  ∃ g gr A c q, e = .returned (.tuple #[.pointer (some ⟨g, 0, none⟩), .int .i64 r.2.2]) ∧ IR w' g gr A c bs q most r.1 ∧ (r.2.2 = 0 → q = r.2.1) ∧ w.heap.size ≤ gr ∧ (∀ a, A = some a → gr < a.block) ∧ Below w.heap.size w w'
set_option maxRecDepth 100000 in
set_option maxHeartbeats 1000000 in
theorem iread_calls (w : World) (A : Option Addr) (n c : Nat) (bs : List Int) (most : Nat) (hT : Tabs w) (hr : RI .u8 w A n bs) (hnil : A = none → n = 0 ∧ c = 0) (hbyte : ∀ j, 0 ≤ nth bs j ∧ nth bs j ≤ 255) (hn : n ≤ 4000000000) (hm : most ≤ 16384) :
    Calls Tryd.prog 64 #[.slice A n c, .int .i64 most] w (ReadI w bs most (inflF bs most)) := by
  have HR := Lib.hid hr
  have HN := Lib.hid hnil
  have HT := Lib.hid hT
  have HBY := Lib.hid hbyte
  have HTS := Lib.hid hT.size
  clear hr hnil hT hbyte
  go_enter Tryd.func64, Tryd.ntmps64
  go_wp2_with fail
  refine (newReader_calls w A n c bs HR.out HN.out HBY.out hn).mono ?_
  rintro _ w1 ⟨gr, A1, c1, rfl, hrd, hgr, hA1, hb1⟩
  have hk1 := Keeps.of_below hb1 (S := [])
  have HK1 := Lib.hid hk1
  have HT1 := Lib.hid (HT.out.keeps hk1 (by simp))
  have HRD := Lib.hid hrd
  have HA1 := Lib.hid hA1
  have hgl := hrd.lt
  clear hrd hA1 hb1 hk1 HR HN HBY
  obtain ⟨g, hg⟩ : ∃ g, g = w1.heap.size := ⟨_, rfl⟩
  obtain ⟨w2, hw2⟩ : ∃ w2, w2 = w1.alloc (.cells #[.pointer (some ⟨gr, 0, none⟩), .slice none 0 0, .int .i64 most] 98) := ⟨_, rfl⟩
  have hk2 : Keeps [] w1 w2 := by rw [hw2]; exact (Keeps.refl [] w1).alloc _
  have hb2 : Blk w2 g 98 [.pointer (some ⟨gr, 0, none⟩), .slice none 0 0, .int .i64 most] := by rw [hw2, hg]; exact blk_new w1 _ _
  have HI : Hid (IR w2 g gr A1 c1 bs 0 most []) := Lib.hid ⟨HRD.out.dr hk2, ⟨_, hb2, World.ownsRow_nil _ _ _ _⟩, by omega, fun a ha => by have := (HA1.out a ha).2; omega, by simp, hm⟩
  have HT2 := Lib.hid (HT1.out.keeps hk2 (by simp))
  have HK2 := Lib.hid (HK1.out.trans hk2)
  have HGS : Hid (w2.heap.size = g + 1) := Lib.hid (by rw [hw2, hg]; simp)
  have HG : Hid (w.heap.size ≤ gr ∧ gr < g) := Lib.hid ⟨hgr, by omega⟩
  have HAG : Hid (∀ a, A1 = some a → gr < a.block) := Lib.hid (fun a ha => (HA1.out a ha).1)
  have hgt : gtop ≤ gr := by have := HTS.out; omega
  go_upto_region 2 with (fail)
  rw [← hw2, ← hg]
  clear hw2 hg hk2 hb2 HRD HA1 HT1 HK1 hgl hgr
  go_wp2_with fail
  refine (blocks_calls w2 g gr A1 c1 bs 0 most [] HT2.out hgt HI.out).mono ?_
  rintro _ w3 ⟨q, rfl, h3, k3, hq⟩
  rw [show blksF bs most (8 * bs.length + 1) [] 0 = inflF bs most from rfl] at h3 hq ⊢
  have H3 := Lib.hid h3
  have hgg := HG.out
  have hk3 : Keeps [] w w3 := by
    have hs := HK2.out.size
    exact ⟨k3.os.trans HK2.out.os, k3.tape.trans HK2.out.tape, k3.output.trans HK2.out.output, Nat.le_trans HK2.out.size k3.size, fun k hk _ => (k3.same k (by omega) (by omega) (by omega) (.inl (by omega))).trans (HK2.out.block k hk (by simp))⟩
  have HK3 := Lib.hid hk3
  have HQ := Lib.hid hq
  clear h3 k3 hq hk3 HI HK2 hgg
  generalize hir : inflF bs most = ir at *
  obtain ⟨o3, p3, er⟩ := ir
  simp only [] at H3 HQ ⊢
  have HIR := Lib.hid hir
  clear hir
  go_wp2_with fail
  go_ret2
  exact ⟨g, gr, A1, c1, q, rfl, H3.out, HQ.out, HG.out.1, HAG.out, HK3.out.below⟩
set_option maxRecDepth 100000 in
set_option maxHeartbeats 1000000 in
theorem inflate_calls (w : World) (A : Option Addr) (n c : Nat) (bs : List Int) (most : Int) (hT : Tabs w) (hr : RI .u8 w A n bs) (hnil : A = none → n = 0 ∧ c = 0) (hbyte : ∀ j, 0 ≤ nth bs j ∧ nth bs j ≤ 255) (hn : n ≤ 4000000000) :
    Calls Tryd.prog 31 #[.slice A n c, .int .i64 most] w fun e w' => ∃ v, e = .returned (.tuple #[v, .int .i64 ((inflR bs most).2.1 : Nat), .int .i64 (inflR bs most).2.2]) ∧
      w'.ownsRow w.heap.size 5 1 v (inflR bs most).1.length (ints .u8 (inflR bs most).1) ∧ Below w.heap.size w w' := by
  have HR := Lib.hid hr
  have HN := Lib.hid hnil
  have HT := Lib.hid hT
  have HBY := Lib.hid hbyte
  have HRL := Lib.hid hr.len
  clear hr hnil hT hbyte
  go_enter Tryd.func31, Tryd.ntmps31
  by_cases h0 : most < 0
  · have e0 : decide (most < 0) = true := by simpa using h0
    have HE : Hid (inflR bs most = ([], 0, 1)) := Lib.hid (by unfold inflR; rw [if_pos (.inl h0)])
    clear h0
    go_wp2_with fail
    go_ret3
    rw [HE.out]
    exact ⟨_, rfl, World.ownsRow_nil _ _ _ _, Below.refl _ _⟩
  have e0 : decide (most < 0) = false := by simpa using h0
  by_cases h1 : 16384 < most
  · have e1 : decide (16384 < most) = true := by simpa using h1
    have HE : Hid (inflR bs most = ([], 0, 1)) := Lib.hid (by unfold inflR; rw [if_pos (.inr h1)])
    clear h1
    go_wp2_with fail
    go_ret3
    rw [HE.out]
    exact ⟨_, rfl, World.ownsRow_nil _ _ _ _, Below.refl _ _⟩
  have e1 : decide (16384 < most) = false := by simpa using h1
  obtain ⟨m, rfl⟩ := Int.eq_ofNat_of_zero_le (show 0 ≤ most by omega)
  have hm : m ≤ 16384 := by omega
  have HE : Hid (inflR bs (m : Nat) = if (inflF bs m).2.2 ≠ 0 then ([], 0, (inflF bs m).2.2) else ((inflF bs m).1, ((inflF bs m).2.1 + 7) / 8, 0)) := Lib.hid (by unfold inflR; rw [if_neg (by omega), Int.toNat_natCast])
  change Code.wp _ _ _ _ _
  go_wp2_with fail
  refine (iread_calls w A n c bs m HT.out HR.out HN.out HBY.out hn hm).mono ?_
  rintro _ w1 ⟨g, gr, A1, c1, q, rfl, hi, hq, hgr, -, hb⟩
  have HI := Lib.hid hi
  have HB := Lib.hid hb
  have HPOS := Lib.hid (fun h => inflF_pos bs m h)
  clear hb HR HN HT HBY h0 h1 e0 e1
  generalize inflF bs m = ir at *
  obtain ⟨o3, p3, er⟩ := ir
  simp only [] at HE HPOS hi hq HI ⊢
  by_cases her : er = 0
  · subst her
    obtain rfl := hq rfl
    have HE1 := Lib.hid (HE.out.trans (if_neg (by simp)))
    have hp := HPOS.out rfl
    have hrl := HRL.out
    obtain ⟨vA, hblk, hown⟩ := hi.box
    obtain ⟨A2, c2, rfl, -, -, -⟩ := own_ri hown
    have k0 := hblk.cell 0
    have k1 := hblk.cell 1
    simp only [List.getElem?_cons_zero, List.getElem?_cons_succ] at k0 k1
    have HO := Lib.hid (hown.mono (show w.heap.size ≤ g + 1 by have := hi.lt; omega))
    have hcl : ∀ j, Calls Tryd.prog 28 #[.pointer (some ⟨gr, 0, none⟩)] (w1.drewN j) fun e w' => e = .returned (.int .i64 q) ∧ ∃ m, w' = (w1.drewN j).drewN m := fun j => gone_calls (w1.drewN j) gr A1 c1 bs q (hi.rd.dr ((Keeps.refl [] w1).drewN j))
    have HCL := Lib.hid hcl
    have s1 : IntKind.i64.wrap ((q : Int) + 7) = (q : Int) + 7 := IntWalk.i64_in _ (by omega)
    obtain ⟨Q, hQ⟩ : ∃ Q, Q = (q + 7) / 8 := ⟨_, rfl⟩
    rw [← hQ] at HE1
    have s2 : ((q : Int) + 7).tdiv 8 = (Q : Int) := by rw [Int.tdiv_eq_ediv_of_nonneg (by omega)]; omega
    have s3 : IntKind.i64.wrap (Q : Int) = Q := IntWalk.i64_in _ (by omega)
    clear hQ
    clear HE hq hi hblk hown hcl HI HPOS hrl
    go_upto_region 6 with (fail)
    go_quiet (first | (go_at_call 28; exact Calls.quiet_of (HCL.out _)))
    go_wp2_with fail
    go_ret3
    rw [HE1.out]
    exact ⟨_, rfl, own_keeps HO.out ((Keeps.refl [] w1).drewN _) (by simp), HB.out.trans (below_lower ((Keeps.refl [] w1).drewN _).below HB.out.size)⟩
  · have HE1 := Lib.hid (HE.out.trans (if_pos her))
    have e2 : (er != 0) = true := by simpa using her
    clear HE hq hi HI HPOS her
    go_wp2_with fail
    go_ret3
    rw [HE1.out]
    exact ⟨_, rfl, World.ownsRow_nil _ _ _ _, HB.out⟩
end Go.Proofs.YtcblibefmclloaaDoor

set_option linter.unusedVariables false
set_option linter.unusedSimpArgs false
namespace Go.Proofs.YtcblibefmclloaaDoor
open Go.RowKit
/-- A stream that has been fed so many bytes. -/
def Strm (w : World) (s most : Nat) (fed : List Int) (fb : Option Nat) : Prop :=
  ∃ (v : Value) (told used : Nat), Blk w s 100 [.int .i64 most, v, .int .i64 told, .int .i64 (inflF fed most).2.2, .int .i64 used] ∧ w.ownsRow (s + 1) 5 1 v fed.length (ints .u8 fed) ∧
    ((inflF fed most).2.2 = 55 ∨ (inflF fed most).2.2 = 0 → told = (inflF fed most).1.length) ∧ ((inflF fed most).2.2 = 0 → used = ((inflF fed most).2.1 + 7) / 8) ∧ (∀ j, 0 ≤ nth fed j ∧ nth fed j ≤ 255) ∧ most ≤ 16384 ∧ v.ownBlock = fb
theorem Strm.lt {w : World} {s most : Nat} {fed : List Int} {fb : Option Nat} (h : Strm w s most fed fb) : s < w.heap.size := by obtain ⟨v, t, u, hb, _⟩ := h; exact hb.lt
theorem Strm.keeps {w w' : World} {s most : Nat} {fed : List Int} {fb : Option Nat} {K : List Nat} (h : Strm w s most fed fb) (hk : Keeps K w w') (hK : ∀ x ∈ K, x < s ∨ w.heap.size ≤ x) : Strm w' s most fed fb := by
  obtain ⟨v, t, u, h1, h2, h3⟩ := h
  have hl := h1.lt
  refine ⟨v, t, u, h1.keeps hk (fun hm => by rcases hK s hm with h | h <;> omega), own_keeps h2 hk (fun x hx hm => ?_), h3⟩
  have a := own_lo h2 x hx
  have b := own_hi h2 x hx
  rcases hK x hm with h | h <;> omega
theorem inflF_nil (most : Nat) : inflF [] most = ([], 0, 55) := by
  unfold inflF
  rw [blksF, if_pos (by simp)]
theorem inew_calls (w : World) (most : Int) : Calls Tryd.prog 37 #[.int .i64 most] w fun e w' =>
    (most < 0 ∨ 16384 < most → e = .returned (.tuple #[.pointer none, .int .i64 1]) ∧ Keeps [] w w') ∧ (∀ m : Nat, most = m → m ≤ 16384 → ∃ s, e = .returned (.tuple #[.pointer (some ⟨s, 0, none⟩), .int .i64 0]) ∧ Strm w' s m [] none ∧ w.heap.size ≤ s ∧ Keeps [] w w') := by
  go_enter Tryd.func37, Tryd.ntmps37
  by_cases h0 : most < 0
  · have e0 : decide (most < 0) = true := by simpa using h0
    have H0 := Lib.hid h0
    clear h0
    go_wp2_with fail
    go_ret2
    exact ⟨fun _ => ⟨rfl, Keeps.refl _ _⟩, fun m hm _ => by have := H0.out; omega⟩
  have e0 : decide (most < 0) = false := by simpa using h0
  by_cases h1 : 16384 < most
  · have e1 : decide (16384 < most) = true := by simpa using h1
    have H1 := Lib.hid h1
    clear h1
    go_wp2_with fail
    go_ret2
    exact ⟨fun _ => ⟨rfl, Keeps.refl _ _⟩, fun m hm _ => by have := H1.out; omega⟩
  have e1 : decide (16384 < most) = false := by simpa using h1
  obtain ⟨m, rfl⟩ := Int.eq_ofNat_of_zero_le (show 0 ≤ most by omega)
  have hm : m ≤ 16384 := by omega
  change Code.wp _ _ _ _ _
  have HS : Hid (Strm (w.alloc (.cells #[.int .i64 m, .slice none 0 0, .int .i64 0, .int .i64 55, .int .i64 0] 100)) w.heap.size m [] none) := Lib.hid (by
    refine ⟨.slice none 0 0, 0, 0, ?_, World.ownsRow_nil _ _ _ _, ?_, ?_, fun j => by simp [nth], hm, rfl⟩
    · rw [inflF_nil]; exact blk_new w _ _
    · rw [inflF_nil]; intro _; rfl
    · rw [inflF_nil]; intro h; simp at h)
  go_wp2_with fail
  go_ret2
  exact ⟨fun h => by omega, fun k hk _ => ⟨_, rfl, by obtain rfl : m = k := by omega
                                                      exact HS.out, Nat.le_refl _, (Keeps.refl [] w).alloc _⟩⟩
theorem done_calls (w : World) (s most : Nat) (fed : List Int) (fb : Option Nat) (h : Strm w s most fed fb) : Calls Tryd.prog 41 #[.pointer (some ⟨s, 0, none⟩)] w fun e w' => e = .returned (.bool (decide ((inflF fed most).2.2 = 0))) ∧ Dr w w' := by
  obtain ⟨v, t, u, hb, -⟩ := h
  have k3 := hb.cell 3
  simp only [List.getElem?_cons_zero, List.getElem?_cons_succ] at k3
  clear hb
  generalize (inflF fed most).2.2 = er at *
  go_enter Tryd.func41, Tryd.ntmps41
  by_cases he : er = 0
  · subst he
    go_wp2_with fail
    go_ret
    exact ⟨rfl, 0, rfl⟩
  · have e1 : (er == 0) = false := by simpa using he
    have e2 : decide (er = 0) = false := by simpa using he
    go_wp2_with fail
    go_ret
    exact ⟨by rw [e2]; rfl, 0, rfl⟩
theorem done_nil (w : World) : Calls Tryd.prog 41 #[.pointer none] w fun e w' => e = .returned (.bool false) ∧ Dr w w' := by
  go_enter Tryd.func41, Tryd.ntmps41
  go_wp2_with fail
  go_ret
  exact ⟨rfl, 0, rfl⟩
theorem close_calls (w : World) (s most : Nat) (fed : List Int) (fb : Option Nat) (h : Strm w s most fed fb) : Calls Tryd.prog 42 #[.pointer (some ⟨s, 0, none⟩)] w fun e w' => e = .returned (.int .i64 (inflF fed most).2.2) ∧ Dr w w' := by
  obtain ⟨v, t, u, hb, -⟩ := h
  have k3 := hb.cell 3
  simp only [List.getElem?_cons_zero, List.getElem?_cons_succ] at k3
  clear hb
  generalize (inflF fed most).2.2 = er at *
  go_enter Tryd.func42, Tryd.ntmps42
  go_wp2_with fail
  go_ret
  exact ⟨rfl, 0, rfl⟩
theorem close_nil (w : World) : Calls Tryd.prog 42 #[.pointer none] w fun e w' => e = .returned (.int .i64 3) ∧ Dr w w' := by
  go_enter Tryd.func42, Tryd.ntmps42
  go_wp2_with fail
  go_ret
  exact ⟨rfl, 0, rfl⟩
theorem rest_nil (w : World) : Calls Tryd.prog 43 #[.pointer none] w fun e w' => e = .returned (.slice none 0 0) ∧ Dr w w' := by
  go_enter Tryd.func43, Tryd.ntmps43
  go_wp2_with fail
  refine (done_nil w).mono ?_
  rintro _ w1 ⟨rfl, hd⟩
  have HD := Lib.hid hd
  clear hd
  go_wp2_with fail
  go_ret
  exact ⟨rfl, HD.out⟩
theorem feed_nil (w : World) (A : Option Addr) (n c : Nat) : Calls Tryd.prog 39 #[.pointer none, .slice A n c] w fun e w' => e = .returned (.tuple #[.slice none 0 0, .int .i64 3]) ∧ Dr w w' := by
  go_enter Tryd.func39, Tryd.ntmps39
  go_wp2_with fail
  go_ret2
  exact ⟨rfl, 0, rfl⟩
/-- What stands behind the end. -/
def restF (fed : List Int) (most : Nat) : List Int := if (inflF fed most).2.2 = 0 then fed.drop (((inflF fed most).2.1 + 7) / 8) else []
set_option maxRecDepth 100000 in
set_option maxHeartbeats 400000 in
theorem rest_calls (w : World) (s most : Nat) (fed : List Int) (fb : Option Nat) (h : Strm w s most fed fb) (hf : fed.length ≤ 4000000000) : Calls Tryd.prog 43 #[.pointer (some ⟨s, 0, none⟩)] w fun e w' => ∃ v, e = .returned v ∧
    w'.ownsRow w.heap.size 5 1 v (restF fed most).length (ints .u8 (restF fed most)) ∧ Keeps [] w w' := by
  have H := Lib.hid h
  clear h
  go_enter Tryd.func43, Tryd.ntmps43
  go_wp2_with fail
  refine (done_calls w s most fed fb H.out).mono ?_
  rintro _ w1 ⟨rfl, hd⟩
  have hk1 := hd.keeps (S := [])
  obtain ⟨v, t, u, hb, hown, -, hu, -⟩ := H.out.keeps hk1 (by simp)
  have hpos := fun h => inflF_pos fed most h
  have HK1 := Lib.hid hk1
  have hsz := hk1.size
  have HRF : Hid (restF fed most = if (inflF fed most).2.2 = 0 then fed.drop (((inflF fed most).2.1 + 7) / 8) else []) := Lib.hid rfl
  clear hd H hk1
  generalize inflF fed most = ir at *
  obtain ⟨o3, p3, er⟩ := ir
  simp only [] at hu hpos HRF hb ⊢
  by_cases her : er = 0
  · subst her
    replace hu := hu rfl
    replace hpos := hpos rfl
    have HR := Lib.hid (HRF.out.trans (if_pos rfl))
    rw [← hu] at HR
    obtain ⟨L, hL⟩ : ∃ L, L = fed.length := ⟨_, rfl⟩
    obtain ⟨A2, c2, rfl, hri, hcap, hnil, hpl, hlt⟩ := own_full hown
    have k1 := hb.cell 1
    have k4 := hb.cell 4
    simp only [List.getElem?_cons_zero, List.getElem?_cons_succ] at k1 k4
    rw [← hL] at k1 hri hcap hnil hpos hf
    have hul : u ≤ L := by omega
    have HRI := Lib.hid (hri.cut hpl hul hcap)
    have HNL := Lib.hid (cutA_nil (l := u) hnil)
    have hsl := fun w => slice_from8 w A2 L c2 u u rfl hul
    have HLL : Hid ((fed.drop u).length = L - u) := Lib.hid (by rw [List.length_drop, hL])
    clear hL hri hnil hpl hlt hown hb hu hpos HRF
    go_upto_region 3 with (fail)
    go_still_tail 9, (by kernel_rfl)
    change wpList _ _ _ _ _ w1.drew
    have hdr := (Keeps.refl [] w1).drew
    have HRId := Lib.hid (HRI.out.keeps hdr (off_nil _))
    have HKd := Lib.hid (HK1.out.trans hdr)
    clear hdr HRI HK1 k1 k4 hsl
    go_wp2_with fail
    refine (bclone_calls w1.drew (cutA A2 u c2) (L - u) (c2 - u) (fed.drop u) HRId.out HNL.out (by omega)).mono ?_
    rintro _ w2 ⟨v2, rfl, ho2, hb2⟩
    have HO2 := Lib.hid ho2
    have HK2 := Lib.hid (HKd.out.trans (Keeps.of_below hb2 (S := [])))
    clear ho2 hb2
    obtain ⟨A3, c3, rfl, -, -, -⟩ := own_ri HO2.out
    go_wp2_with fail
    go_ret
    rw [HR.out, HLL.out]
    exact ⟨_, rfl, HO2.out.mono hsz, HK2.out⟩
  · have HR := Lib.hid (HRF.out.trans (if_neg her))
    have e1 : decide (er = 0) = false := by simpa using her
    clear HRF hu hpos her hb
    go_wp2_with fail
    go_ret
    rw [HR.out]
    exact ⟨_, rfl, World.ownsRow_nil _ _ _ _, HK1.out⟩
end Go.Proofs.YtcblibefmclloaaDoor

set_option linter.unusedVariables false
set_option linter.unusedSimpArgs false
/-! An append that also tells where the row lies behind it. -/
namespace Go.Proofs.YtcblibefmclloaaDoor
open Go.RowKit
theorem run_append_where {P : Program} (w : World) (base : Nat) (t ty e : TypeId) (i : TypeInfo) (z : Value) (size bytes : Nat) (ht : P.underlying t = some (.slice e)) (hi : P.info? e = some i) (hz : i.zero = some z)
    (hsize : i.size = size) (hby : i.bytes = bytes) (hzs : z.cells.size = size) (hsz : 0 < size)
    (v : Value) (n : Nat) (xs : List Value) (hown : w.ownsRow base e size v n xs)
    (a : Addr) (m c : Nat) (news : List Value) (hl : news.length = m * size) (hnews : ∀ j u, news[j]? = some u → w.cell? (a.add j) = some u) (h1 : ∀ u ∈ news, u.oneCell' = true)
    (h63 : n + m ≤ maxLen) (hbytes : (n + m) * bytes ≤ 140737488355328) :
    ∃ v' w', (Builtin.append_ #[t, t] ty #[v, .slice (some a) m c]).run P w = .ok v' w' ∧ (v'.ownBlock = v.ownBlock ∨ v'.ownBlock = some w.heap.size) := by
  subst hsize
  subst hby
  have hsmall : n + m ≤ 9223372036854775807 := by simp only [maxLen] at h63; omega
  rcases hown.2 with ⟨rfl, rfl⟩ | ⟨g, cap, cur, rfl, hbg, hg, hnc, hcm, hcs, htake⟩
  · by_cases hm : m = 0
    · subst hm
      have hn : news = [] := List.eq_nil_of_length_eq_zero (by simpa using hl)
      subst hn
      refine ⟨.slice none 0 0, w, ?_, .inl rfl⟩
      simp [Builtin.append_, run_underlying ht, sizeOf, typeInfo, hi, Builtin.lenOf, Builtin.firstCells, loadCells, loadCellsFrom]
    · have hr := run_append_nil (P := P) w t ty e i z ht hi hz a m c news hl hnews (by omega) (by omega) (by have hb := hbytes; simp only [Nat.zero_add] at hb; omega)
      exact ⟨_, _, hr, .inr rfl⟩
  · by_cases hroom : n + m ≤ cap
    · have hfit : n * i.size + news.length ≤ cur.size := by rw [hl, hcs, ← Nat.add_mul]; exact Nat.mul_le_mul_right _ hroom
      have hr := run_append_room (P := P) w t ty e i ht hi g n cap cur hg a m c news hl hnews h1 hroom hfit
      exact ⟨_, _, hr, .inl rfl⟩
    · have holds : ∀ j u, xs[j]? = some u → w.cell? ((⟨g, 0, none⟩ : Addr).add j) = some u := hown.cells (g := g) rfl
      have hr := run_append_grow (P := P) w t ty e i z ht hi hz ⟨g, 0, none⟩ n cap xs hown.1 holds a m c news hl hnews (by omega) (by omega) (growslice_fits (by omega) hbytes)
      exact ⟨_, _, hr, .inr rfl⟩
theorem app_bytesB {ops : Array Oper} {rest : List Oper} {o : Oper} {a : Act} {Q : Exit → Act → World → Prop} {w : World} (hgd : o.guard = none) (s x : Operand)
    (ho : o.op = .call { callee := .builtin .append, args := #[s, x], argTypes := #[37, 37] })
    (base : Nat) (v : Value) (n : Nat) (xs : List Int) (hs : a.eval s = v) (hown : w.ownsRow base 5 1 v n (ints .u8 xs))
    (A : Option Addr) (m c : Nat) (ys : List Int) (hx : a.eval x = .slice A m c) (hy : RI .u8 w A m ys) (hnil : A = none → m = 0 ∧ c = 0)
    (hn : n + m ≤ 8000000000) (hbase : base ≤ w.heap.size)
    (h : ∀ v' w', w'.ownsRow base 5 1 v' (n + m) (ints .u8 (xs ++ ys)) → w.grownBy w' v.ownBlock → (v'.ownBlock = v.ownBlock ∨ v'.ownBlock = some w.heap.size) → wpList Tryd.prog ops Q rest (a.put o.dst v') w') : wpList Tryd.prog ops Q (o :: rest) a w := by
  obtain ⟨i0, hi, hz0, hz1, hz2⟩ := info_parts info_u8
  cases A with
  | none =>
    obtain ⟨rfl, rfl⟩ := hnil rfl
    obtain rfl : ys = [] := List.eq_nil_of_length_eq_zero hy.len
    refine wpList_append_own_none hgd s x 37 ho base 5 i0 1 Tryd.underlying37 hi v n (ints .u8 xs) hs hown hx ?_
    exact h v w (by simpa using hown) ⟨rfl, rfl, rfl, Nat.le_refl _, fun _ _ _ => rfl⟩ (.inl rfl)
  | some ad =>
    have hnews : ∀ j u, (ints .u8 ys)[j]? = some u → w.cell? (ad.add j) = some u := by
      intro j u hu
      have hj : j < m := by have := (List.getElem?_eq_some_iff.1 hu).1; have := hy.len; simp [ints] at *; omega
      obtain ⟨b, of, hab⟩ := hy.hd (by omega)
      obtain rfl := Option.some.inj hab
      rw [add_plain2]
      have hc := hy.cell b of rfl j hj
      rw [hc, ← hu, ints_getElem?]
      simp [nth, List.getD, show j < ys.length by have := hy.len; omega]
    obtain ⟨v', w', hr, h2, h3, -⟩ := run_append_own (P := Tryd.prog) w base 37 o.type 5 i0 (.int .u8 0) 1 1 Tryd.underlying37 hi hz0 hz1 hz2 rfl (by decide) v n (ints .u8 xs) hown ad m c (ints .u8 ys) (by simp [ints, hy.len]) hnews (ints_one' _ _) (by unfold maxLen; omega) (by omega) hbase
    obtain ⟨v2, w2, hr2, h4⟩ := run_append_where (P := Tryd.prog) w base 37 o.type 5 i0 (.int .u8 0) 1 1 Tryd.underlying37 hi hz0 hz1 hz2 rfl (by decide) v n (ints .u8 xs) hown ad m c (ints .u8 ys) (by simp [ints, hy.len]) hnews (ints_one' _ _) (by unfold maxLen; omega) (by omega)
    rw [hr] at hr2
    injection hr2 with e1 e2
    subst e1
    refine wpList_plain hgd fun K hK => ?_
    unfold Oper.wp execOp
    simp only [ho, resolve, invoke, builtin, Sem.run_bind, Sem.run_pure, Result.andThen_ok, List.map_toArray, List.map_cons, List.map_nil, hs, hx, hr]
    have e : ints .u8 (xs ++ ys) = ints .u8 xs ++ ints .u8 ys := by simp [ints]
    rw [e] at h
    exact hK _ _ (h v' w' h2 h3 h4)
end Go.Proofs.YtcblibefmclloaaDoor

set_option linter.unusedVariables false
set_option linter.unusedSimpArgs false
namespace Go.Proofs.YtcblibefmclloaaDoor
open Go.RowKit
/-- What feeding tells. -/
def feedR (r0 r : IRes) : List Int × Int := if r.2.2 = 0 ∨ r.2.2 = 55 then (r.1.drop r0.1.length, 0) else ([], r.2.2)
def FedP (w : World) (s most : Nat) (fed b : List Int) (fb : Option Nat) (e : Ending) (w' : World) : Prop :=
  ∃ v fb', e = .returned (.tuple #[v, .int .i64 (feedR (inflF fed most) (inflF (fed ++ b) most)).2]) ∧ w'.ownsRow w.heap.size 5 1 v (feedR (inflF fed most) (inflF (fed ++ b) most)).1.length (ints .u8 (feedR (inflF fed most) (inflF (fed ++ b) most)).1) ∧
    Strm w' s most (fed ++ b) fb' ∧ Keeps (s :: fb.toList) w w' ∧ (∀ x, fb' = some x → fb = some x ∨ w.heap.size ≤ x) ∧ (∀ x, v.ownBlock = some x → fb' ≠ some x)
theorem nth_byte_append {xs ys : List Int} (h1 : ∀ j, 0 ≤ nth xs j ∧ nth xs j ≤ 255) (h2 : ∀ j, 0 ≤ nth ys j ∧ nth ys j ≤ 255) (j : Nat) : 0 ≤ nth (xs ++ ys) j ∧ nth (xs ++ ys) j ≤ 255 := by
  by_cases h : j < xs.length
  · rw [nth_append_left _ _ _ h]; exact h1 j
  · have := nth_append_right xs ys (j - xs.length)
    rw [show xs.length + (j - xs.length) = j by omega] at this
    rw [this]; exact h2 _
theorem RI.keeps_of {k : IntKind} {w w' : World} {A : Option Addr} {n : Nat} {xs : List Int} {S : List Nat} (h : RI k w A n xs) (hk : Keeps S w w') (ho : ∀ a, A = some a → a.block ∉ S) : RI k w' A n xs := h.keeps hk ho
/-- An append may take a block that is its own, or a new one. -/
theorem own_grown {w w' : World} {base n m size : Nat} {t : TypeId} {v v' : Value} {xs ys : List Value} (h : w.ownsRow base t size v n xs) (h' : w'.ownsRow base t size v' m ys) (hg : w.grownBy w' v.ownBlock) : True := trivial
set_option maxRecDepth 100000 in
set_option maxHeartbeats 2000000 in
theorem feed_calls (w : World) (s most : Nat) (fed : List Int) (fb : Option Nat) (A : Option Addr) (n c : Nat) (b : List Int) (h : Strm w s most fed fb) (hT : Tabs w) (hs : gtop ≤ s) (hr : RI .u8 w A n b) (hnil : A = none → n = 0 ∧ c = 0)
    (hbyte : ∀ j, 0 ≤ nth b j ∧ nth b j ≤ 255) (hsz : fed.length + n ≤ 1000000000) :
    Calls Tryd.prog 39 #[.pointer (some ⟨s, 0, none⟩), .slice A n c] w (FedP w s most fed b fb) := by
  have hslt := h.lt
  obtain ⟨v, t, u, hb, hown, ht, hu, hbf, hm, hfb⟩ := h
  obtain ⟨vA, vc, rfl⟩ := own_formW hown
  have k1 := hb.cell 1
  simp only [List.getElem?_cons_zero, List.getElem?_cons_succ] at k1
  have HB := Lib.hid hb
  have HO := Lib.hid hown
  have HFB := Lib.hid hfb
  have HTO := Lib.hid ht
  have HUS := Lib.hid hu
  have HBY := Lib.hid (nth_byte_append hbf hbyte)
  have HR := Lib.hid hr
  have HBN := Lib.hid hr.len
  have HN := Lib.hid hnil
  have HT := Lib.hid hT
  have HEX := Lib.hid (inflF_ext fed b most)
  have HPS := Lib.hid (fun h => inflF_pos (fed ++ b) most h)
  clear hb hown ht hu hbf hr hnil hbyte hfb hT
  obtain ⟨r0, hr0⟩ : ∃ r0, r0 = inflF fed most := ⟨_, rfl⟩
  obtain ⟨r1, hr1⟩ : ∃ r1, r1 = inflF (fed ++ b) most := ⟨_, rfl⟩
  have HR0 := Lib.hid hr0
  have HR1 := Lib.hid hr1
  rw [← hr0] at HB HTO HUS HEX
  rw [← hr1] at HEX HPS
  clear hr0 hr1
  obtain ⟨o0, p0, e0⟩ := r0
  obtain ⟨o1, p1, e1⟩ := r1
  simp only [] at HB HTO HUS HEX HPS
  obtain ⟨L, hL⟩ : ∃ L, L = fed.length := ⟨_, rfl⟩
  have HL := Lib.hid hL
  rw [← hL] at k1 HO HB HFB hsz
  clear hL
  have HF : ∀ (x : Value) (y : Int) (fb' : Option Nat) (w' : World), Hid (feedR (o0, p0, e0) (o1, p1, e1) = ([], y)) → Strm w' s most (fed ++ b) fb' → Keeps (s :: fb.toList) w w' → (∀ x, fb' = some x → fb = some x ∨ w.heap.size ≤ x) → FedP w s most fed b fb (.returned (.tuple #[.slice none 0 0, .int .i64 y])) w' := fun x y fb' w' hfr hst hk hx => by
    refine ⟨.slice none 0 0, fb', ?_, ?_, hst, hk, hx, fun x hx => by simp [Value.ownBlock] at hx⟩
    · rw [← HR0.out, ← HR1.out, hfr.out]
    · rw [← HR0.out, ← HR1.out, hfr.out]; exact World.ownsRow_nil _ _ _ _
  have HFT0 : ∀ (v : Value) (o : List Int) (fb' : Option Nat) (w' : World), Hid (feedR (o0, p0, e0) (o1, p1, e1) = (o, 0)) → w'.ownsRow w.heap.size 5 1 v o.length (ints .u8 o) → Strm w' s most (fed ++ b) fb' → Keeps (s :: fb.toList) w w' →
      (∀ x, fb' = some x → fb = some x ∨ w.heap.size ≤ x) → (∀ x, v.ownBlock = some x → fb' ≠ some x) → FedP w s most fed b fb (.returned (.tuple #[v, .int .i64 0])) w' := fun v o fb' w' hfr ho hst hk hx hv => by
    refine ⟨v, fb', ?_, ?_, hst, hk, hx, hv⟩
    · rw [← HR0.out, ← HR1.out, hfr.out]
    · rw [← HR0.out, ← HR1.out, hfr.out]; exact ho
  have HFH := Lib.hid HF
  have HFT := Lib.hid HFT0
  clear HF HFT0
  go_enter Tryd.func39, Tryd.ntmps39
  go_wp2_with (at_builtin; refine app_bytesB rfl (.tmp 15) (.tmp 16) rfl (s + 1) _ L fed rfl (by exact HO.out) A n c b rfl (by exact HR.out) HN.out ?c1 ?c2 ?_)
  case c1 => omega
  case c2 => exact hslt
  intro v1 w1 ho1 hg1 hwh1
  have hg0 : ∀ k, (Value.slice vA L vc).ownBlock = some k → s + 1 ≤ k := fun k hk => (HO.out.lt k hk).1
  have kg : Keeps (s :: fb.toList) w w1 := (grown_keepsI hg1).mono (fun x hx => by rw [HFB.out] at hx; exact List.mem_cons_of_mem _ hx)
  have hb1 : Blk w1 s 100 [.int .i64 most, .slice vA L vc, .int .i64 t, .int .i64 e0, .int .i64 u] := (hg1.block s hslt (fun e => by have := hg0 s e.symm; omega)).trans HB.out
  obtain ⟨vB, vd, rfl⟩ : ∃ A c, v1 = .slice A (L + n) c := own_formW ho1
  have hT1 := HT.out.keeps (grown_keepsI hg1) (fun x hx => by have := hg0 x (Option.mem_toList.1 hx); omega)
  have HFB1 : Hid (∀ x, (Value.slice vB (L + n) vd).ownBlock = some x → fb = some x ∨ w.heap.size ≤ x) := Lib.hid (fun x hx => by
    rcases hwh1 with e | e
    · exact .inl (by rw [← HFB.out, ← e]; exact hx)
    · rw [e] at hx; exact .inr (by injection hx with hx; omega))
  clear hwh1
  have f1 := hb1.frozen 1
  have j1 := hb1.cell 1
  simp only [List.getElem?_cons_zero, List.getElem?_cons_succ] at j1
  have ks : Keeps [s] w1 (w1.setCell ⟨s, 1, none⟩ (.slice vB (L + n) vd)) := (Keeps.refl [s] w1).setCell (p := ⟨s, 1, none⟩) (Or.inl (by simp)) _
  have hb2 := hb1.set 1 (.slice vB (L + n) vd)
  simp only [List.set_cons_succ, List.set_cons_zero] at hb2
  have ho2 := ownsRow_setCell_below ho1 (a := ⟨s, 1, none⟩) (Nat.lt_succ_self s) (.slice vB (L + n) vd)
  obtain ⟨w2, hw2⟩ : ∃ w2, w2 = w1.setCell ⟨s, 1, none⟩ (.slice vB (L + n) vd) := ⟨_, rfl⟩
  have HW2 := Lib.hid hw2
  rw [← hw2] at ks hb2 ho2
  have HB2 := Lib.hid hb2
  have HO2 := Lib.hid ho2
  have HK2 := Lib.hid (kg.trans (ks.mono (fun x hx => by rw [List.mem_singleton.1 hx]; exact List.mem_cons_self)))
  have HT2 := Lib.hid (hT1.keeps ks (fun x hx => by rw [List.mem_singleton.1 hx]; exact hs))
  have HBX := Lib.hid hb1
  clear kg hb1 hT1 hb2 ho2 hw2 ho1 hg1 HB HO HT k1 hg0 ks
  go_upto_region 4 with (fail)
  rw [← HW2.out]
  clear f1 j1 HW2 HBX
  have HST : Hid (∀ (t' u' : Nat) (w' : World), Blk w' s 100 [.int .i64 most, .slice vB (L + n) vd, .int .i64 t', .int .i64 e1, .int .i64 u'] → w'.ownsRow (s + 1) 5 1 (.slice vB (L + n) vd) (L + n) (ints .u8 (fed ++ b)) →
      (e1 = 55 ∨ e1 = 0 → t' = o1.length) → (e1 = 0 → u' = (p1 + 7) / 8) → Strm w' s most (fed ++ b) (Value.slice vB (L + n) vd).ownBlock) := Lib.hid (fun t' u' w' hb' ho' ht' hu' => by
    refine ⟨_, t', u', ?_, ?_, ?_, ?_, HBY.out, hm, rfl⟩
    · rw [← HR1.out]; exact hb'
    · rw [List.length_append, ← HL.out, HBN.out]; exact ho'
    · rw [← HR1.out]; exact ht'
    · rw [← HR1.out]; exact hu')
  obtain ⟨z0, z2, z3, z1⟩ : w2.cell? ⟨s, 0, none⟩ = some (.int .i64 most) ∧ w2.cell? ⟨s, 2, none⟩ = some (.int .i64 t) ∧ w2.cell? ⟨s, 3, none⟩ = some (.int .i64 e0) ∧ w2.cell? ⟨s, 1, none⟩ = some (.slice vB (L + n) vd) := by
    have a0 := HB2.out.cell 0
    have a1 := HB2.out.cell 1
    have a2 := HB2.out.cell 2
    have a3 := HB2.out.cell 3
    simp only [List.getElem?_cons_zero, List.getElem?_cons_succ] at a0 a1 a2 a3
    exact ⟨a0, a2, a3, a1⟩
  by_cases h55 : e0 ≠ 55
  · have hsame := HEX.out.1 h55
    injection hsame with q1 q2
    injection q2 with q2 q3
    subst q1; subst q2; subst q3
    have HS2 := Lib.hid (HST.out t u w2 HB2.out HO2.out HTO.out HUS.out)
    by_cases h0 : e1 = 0
    · subst h0
      have HFR : Hid (feedR (o1, p1, 0) (o1, p1, 0) = ([], 0)) := Lib.hid (by unfold feedR; rw [if_pos (.inl rfl)]; simp)
      clear HST HTO HUS HEX HPS h55
      go_wp2_with fail
      go_ret2
      exact HFH.out (.int .i64 0) 0 _ _ HFR HS2.out HK2.out HFB1.out
    · have HFR : Hid (feedR (o1, p1, e1) (o1, p1, e1) = ([], e1)) := Lib.hid (by unfold feedR; rw [if_neg (by rintro (h | h); exact h0 h; exact h55 h)])
      have g0 : (e1 == 0) = false := by simpa using h0
      have g5 : (e1 != 55) = true := by simpa using h55
      clear HST HTO HUS HEX HPS h55 h0
      go_wp2_with fail
      go_quiet (fail)
      go_wp2_with fail
      go_ret2
      exact HFH.out (.int .i64 0) e1 _ _ HFR (HS2.out.keeps ((Keeps.refl [] w2).drewN _) (by simp)) (HK2.out.drewN _) HFB1.out
  obtain rfl : e0 = 55 := Classical.not_not.1 h55
  clear h55
  replace HTO := Lib.hid (HTO.out (.inl rfl))
  have HPRE := Lib.hid (HEX.out.2 rfl)
  clear HUS HEX
  obtain ⟨vB', vd', hv', hri, hcap, hnB, hplB, hltB⟩ := own_full HO2.out
  injection hv' with hv1 hv2 hv3
  subst hv1
  subst hv3
  have HRI := Lib.hid hri
  have HNB := Lib.hid hnB
  clear hv2 hri hcap hnB hplB
  have HLT := Lib.hid hltB
  clear hltB
  go_upto_region 8 with (fail)
  go_cut [6, 7] (fun v6 v7 wc => ∃ (g gr : Nat) (A3 : Option Addr) (c3 q : Nat), v6 = .pointer (some ⟨g, 0, none⟩) ∧ v7 = .int .i64 e1 ∧ Hid (IR wc g gr A3 c3 (fed ++ b) q most o1) ∧ Hid (e1 = 0 → q = p1) ∧ Hid (w2.drew.heap.size ≤ gr) ∧ Hid (∀ a, A3 = some a → gr < a.block) ∧ Hid (Below w2.drew.heap.size w2.drew wc))
  case first =>
    have hdr := (Keeps.refl [] w2).drew
    have HTd := Lib.hid (HT2.out.keeps hdr (by simp))
    have HRd := Lib.hid (HRI.out.keeps hdr (off_nil _))
    have hcl : Calls Tryd.prog 64 #[.slice vB (L + n) vd, .int .i64 most] w2.drew fun e w' => ∃ g gr A c q, e = .returned (.tuple #[.pointer (some ⟨g, 0, none⟩), .int .i64 e1]) ∧ IR w' g gr A c (fed ++ b) q most o1 ∧ (e1 = 0 → q = p1) ∧ w2.drew.heap.size ≤ gr ∧ (∀ a, A = some a → gr < a.block) ∧ Below w2.drew.heap.size w2.drew w' := by
      have := iread_calls w2.drew vB (L + n) vd (fed ++ b) most HTd.out HRd.out HNB.out HBY.out (by omega) hm
      rwa [← HR1.out] at this
    have HCL := Lib.hid hcl
    clear hdr HTd HRd hcl HRI
    go_region_with (first | (go_at_call 64; refine HCL.out.mono ?_; rintro _ w3 ⟨g, gr, A3, c3, q, rfl, hi, hq, hgr, hA3, hb3⟩; have HI := Lib.hid hi; have HQ := Lib.hid hq; have HGR := Lib.hid hgr; have HA3 := Lib.hid hA3; have HB3 := Lib.hid hb3; clear hi hq hgr hA3 hb3))
    all_goals (go_wp2_with fail; go_meet; exact ⟨g, gr, A3, c3, q, rfl, rfl, HI, HQ, HGR, HA3, HB3⟩)
  case rest =>
  obtain ⟨g, gr, A3, c3, q, rfl, rfl, HI0, HQ0, HGR0, HA30, HB30⟩ := hcut
  have hi := HI0.out
  have hq := HQ0.out
  have hgr := HGR0.out
  have hA3 := HA30.out
  have hb3 := HB30.out
  clear HI0 HQ0 HGR0 HA30 HB30
  obtain ⟨w3, hw3⟩ : ∃ w3 : World, w3 = wc := ⟨_, rfl⟩
  rw [← hw3] at hi hb3 ⊢
  clear hw3
  have hdr := (Keeps.refl [] w2).drew
  have HBd := Lib.hid (HB2.out.keeps hdr (by simp))
  have HOd := Lib.hid (own_keeps HO2.out hdr (by simp))
  have HKd := Lib.hid (HK2.out.trans (hdr.mono (by simp)))
  clear hdr HB2 HO2 HT2 HK2 HRI z0 z1 z2 z3
  have hk3 := Keeps.of_below hb3 (S := [])
  have HB3 := Lib.hid (HBd.out.keeps hk3 (by simp))
  have HO3 := Lib.hid (own_keeps HOd.out hk3 (by simp))
  have HK3 := Lib.hid (HKd.out.trans (hk3.mono (by simp)))
  have hss : s < w2.drew.heap.size := HBd.out.lt
  have hsg : s < gr := by omega
  have hgg : gr < g := hi.lt
  have HI := Lib.hid hi
  have HQ := Lib.hid hq
  have HA3 := Lib.hid hA3
  have HW2S : Hid (w.heap.size ≤ w2.drew.heap.size) := Lib.hid HKd.out.size
  have HGR : Hid (w2.drew.heap.size ≤ gr) := Lib.hid hgr
  have HLT2 : Hid (∀ a, vB = some a → a.block < w2.drew.heap.size) := Lib.hid (fun a ha => (HLT.out a ha).2)
  have f3 := HB3.out.frozen 3
  have j3 := HB3.out.cell 3
  simp only [List.getElem?_cons_zero, List.getElem?_cons_succ] at j3
  clear hi hq hgr hA3 hb3 hk3 HBd HOd HKd HLT
  go_upto_region 10 with (fail)
  have ks3 : Keeps [s] w3 (w3.setCell ⟨s, 3, none⟩ (.int .i64 e1)) := (Keeps.refl [s] w3).setCell (p := ⟨s, 3, none⟩) (Or.inl (by simp)) _
  have hb4 := HB3.out.set 3 (.int .i64 e1)
  simp only [List.set_cons_succ, List.set_cons_zero] at hb4
  have ho4 := ownsRow_setCell_below HO3.out (a := ⟨s, 3, none⟩) (Nat.lt_succ_self s) (.int .i64 e1)
  obtain ⟨w4, hw4⟩ : ∃ w4, w4 = w3.setCell ⟨s, 3, none⟩ (.int .i64 e1) := ⟨_, rfl⟩
  rw [← hw4] at ks3 hb4 ho4 ⊢
  clear hw4
  have HB4 := Lib.hid hb4
  have HO4 := Lib.hid ho4
  have HK4 := Lib.hid (HK3.out.trans (ks3.mono (fun x hx => by rw [List.mem_singleton.1 hx]; exact List.mem_cons_self)))
  have hRD : Rdr w4 gr A3 c3 (fed ++ b) q := HI.out.rd.keeps ks3 (by simp; omega) (fun a ha hm => by have := HA3.out a ha; rw [List.mem_singleton.1 hm] at this; omega)
  have HRD := Lib.hid hRD
  obtain ⟨gv, hgblk, hgown⟩ := HI.out.box
  obtain ⟨vG, vcG, rfl, hgri, hgcap, hgnil, hgpl, hglt⟩ := own_full hgown
  have HGB := Lib.hid (hgblk.keeps ks3 (by simp; omega))
  have HGR2 := Lib.hid (hgri.keeps ks3 (fun a ha hm => by have := (hglt a ha).1; rw [List.mem_singleton.1 hm] at this; omega))
  have HGN := Lib.hid hgnil
  have HGP := Lib.hid hgpl
  have HGL := Lib.hid (fun a ha => (hglt a ha).1)
  have HGC := Lib.hid hgcap
  have HW4S : Hid (w2.drew.heap.size ≤ w4.heap.size) := Lib.hid (by have := HGB.out.lt; have := HGR.out; omega)
  clear hb4 ho4 ks3 hRD hgblk hgown hgri hgcap hgnil hgpl hglt HI HB3 HO3 HK3 f3 j3 HA3
  by_cases he0 : e1 = 0
  · subst he0
    obtain rfl := HQ.out rfl
    have hpq := HRD.out.le
    have hpl1 : (fed ++ b).length = L + n := by rw [List.length_append, ← HL.out, HBN.out]
    rw [hpl1] at hpq
    clear hpl1 HQ
    obtain ⟨Q, hQ⟩ : ∃ Q, Q = (q + 7) / 8 := ⟨_, rfl⟩
    have HQ := Lib.hid hQ
    have s2 : ((q : Int) + 7) / 8 = (Q : Int) := by omega
    clear hQ
    have k0 := HGB.out.cell 0
    simp only [List.getElem?_cons_zero] at k0
    go_wp2_with fail
    refine (gone_calls w4 gr A3 c3 (fed ++ b) q HRD.out).mono ?_
    rintro _ w5 ⟨rfl, hd⟩
    have hk5 := hd.keeps (S := [])
    have hb5 := HB4.out.keeps hk5 (by simp)
    have f4 := hb5.frozen 4
    have j4 := hb5.cell 4
    simp only [List.getElem?_cons_zero, List.getElem?_cons_succ] at j4
    have HB5 := Lib.hid hb5
    have HO5 := Lib.hid (own_keeps HO4.out hk5 (by simp))
    have HK5 := Lib.hid (HK4.out.trans (hk5.mono (by simp)))
    have HGB5 := Lib.hid (HGB.out.keeps hk5 (by simp))
    have HGR5 := Lib.hid (HGR2.out.keeps hk5 (off_nil _))
    have HW5S : Hid (w2.drew.heap.size ≤ w5.heap.size) := Lib.hid (Nat.le_trans HW4S.out hk5.size)
    clear hd hk5 hb5 HB4 HO4 HK4 HGB HGR2 HW4S HRD k0
    go_upto_region 14 with (fail)
    clear f4 j4 s2
    have ks5 : Keeps [s] w5 (w5.setCell ⟨s, 4, none⟩ (.int .i64 Q)) := (Keeps.refl [s] w5).setCell (p := ⟨s, 4, none⟩) (Or.inl (by simp)) _
    have hb6 := HB5.out.set 4 (.int .i64 Q)
    simp only [List.set_cons_succ, List.set_cons_zero] at hb6
    have ho6 := ownsRow_setCell_below HO5.out (a := ⟨s, 4, none⟩) (Nat.lt_succ_self s) (.int .i64 Q)
    obtain ⟨w6, hw6⟩ : ∃ w6, w6 = w5.setCell ⟨s, 4, none⟩ (.int .i64 Q) := ⟨_, rfl⟩
    rw [← hw6] at ks5 hb6 ho6 ⊢
    clear hw6
    have HGB6 := Lib.hid (HGB5.out.keeps ks5 (by simp; omega))
    have HGR6 := Lib.hid (HGR5.out.keeps ks5 (fun a ha hm => by have := HGL.out a ha; rw [List.mem_singleton.1 hm] at this; omega))
    have HK6 := Lib.hid (HK5.out.trans (ks5.mono (fun x hx => by rw [List.mem_singleton.1 hx]; exact List.mem_cons_self)))
    have HB6 := Lib.hid hb6
    have HO6 := Lib.hid ho6
    have HW6S : Hid (w2.drew.heap.size ≤ w6.heap.size) := Lib.hid (Nat.le_trans HW5S.out ks5.size)
    clear ks5 hb6 ho6 HB5 HO5 HK5 HGB5 HGR5 HW5S
    obtain ⟨U, hU⟩ : ∃ U : Nat, U = Q := ⟨_, rfl⟩
    have HUQ : Hid ((0 : Int) = 0 → U = (q + 7) / 8) := Lib.hid (fun _ => by rw [hU]; exact HQ.out)
    rw [← hU] at HB6
    clear hU
    have HFR : Hid (feedR (o0, p0, 55) (o1, q, 0) = (o1.drop t, 0)) := Lib.hid (by unfold feedR; rw [if_pos (.inl rfl), HTO.out])
    have HTT : Hid ((0 : Int) = 55 ∨ (0 : Int) = 0 → o1.length = o1.length) := Lib.hid (fun _ => rfl)
    have k1 := HGB6.out.cell 1
    have k2 := HB6.out.cell 2
    simp only [List.getElem?_cons_zero, List.getElem?_cons_succ] at k1 k2
    have htl : t ≤ o1.length := by rw [HTO.out]; exact HPRE.out.length_le
    obtain ⟨M, hM⟩ : ∃ M, M = o1.length := ⟨_, rfl⟩
    have HM := Lib.hid hM
    have hMb : M ≤ 4000000000 := by rw [hM]; have := inflF_le (fed ++ b) most; rw [← HR1.out] at this; simp only [] at this; omega
    rw [← hM] at k1 htl HGR6 HTT
    have HGC' : Hid (M ≤ vcG) := Lib.hid (by rw [hM]; exact HGC.out)
    have HCN := Lib.hid (cutA_nil (l := t) (n := M) (c := vcG) (fun h => by have := HGN.out h; rw [hM]; exact this))
    clear hM
    have HRC := Lib.hid (HGR6.out.cut HGP.out htl HGC'.out)
    have hsl := fun w => slice_from8 w vG M vcG t t rfl htl
    go_still_tail 9, (by kernel_rfl)
    change wpList _ _ _ _ _ w6.drew
    have hdr := (Keeps.refl [] w6).drew
    have HBd := Lib.hid (HB6.out.keeps hdr (by simp))
    have HOd := Lib.hid (own_keeps HO6.out hdr (by simp))
    have HKd := Lib.hid (HK6.out.trans (hdr.mono (by simp)))
    have HRCd := Lib.hid (HRC.out.keeps hdr (off_nil _))
    have HGBd := Lib.hid (HGB6.out.keeps hdr (by simp))
    clear hdr HB6 HO6 HK6 HRC HGB6 HGR6 k1 k2 hsl
    go_wp2_with fail
    refine (bclone_calls w6.drew (cutA vG t vcG) (M - t) (vcG - t) (o1.drop t) HRCd.out HCN.out (by omega)).mono ?_
    rintro _ w7 ⟨v7, rfl, ho7, hb7⟩
    have hk7 := Keeps.of_below hb7 (S := [])
    have hb8 := HBd.out.keeps hk7 (by simp)
    have HB7 := Lib.hid hb8
    have HO7 := Lib.hid (own_keeps HOd.out hk7 (by simp))
    have HK7 := Lib.hid (HKd.out.trans (hk7.mono (by simp)))
    have hg7 := HGBd.out.keeps hk7 (by simp)
    have k1 := hg7.cell 1
    simp only [List.getElem?_cons_zero, List.getElem?_cons_succ] at k1
    rw [← HM.out] at k1
    have HV7 := Lib.hid ho7
    obtain ⟨A7, c7, rfl⟩ := own_formW ho7
    have f2 := hb8.frozen 2
    have j2 := hb8.cell 2
    simp only [List.getElem?_cons_zero, List.getElem?_cons_succ] at j2
    have HVB : Hid (∀ x, (Value.slice A7 (M - t) c7).ownBlock = some x → w6.drew.heap.size ≤ x) := Lib.hid (fun x hx => own_lo HV7.out x hx)
    clear hb8 ho7 hb7 hk7 hg7 HBd HOd HKd HRCd HGBd
    go_wp2_with fail
    go_ret2
    have hb9 := HB7.out.set 2 (.int .i64 M)
    simp only [List.set_cons_succ, List.set_cons_zero] at hb9
    have ho9 := ownsRow_setCell_below HO7.out (a := ⟨s, 2, none⟩) (Nat.lt_succ_self s) (.int .i64 M)
    have hv9 := own_keeps HV7.out (S := [s]) ((Keeps.refl [s] w7).setCell (p := ⟨s, 2, none⟩) (Or.inl (by simp)) (.int .i64 M)) (fun x hx hm => by have := HVB.out x hx; rw [List.mem_singleton.1 hm] at this; have := HW6S.out; have : w6.heap.size = w6.drew.heap.size := rfl; omega)
    refine HFT.out _ _ _ _ HFR ?_ (HST.out M U _ hb9 ho9 (fun _ => HM.out) HUQ.out) (HK7.out.setCell (p := ⟨s, 2, none⟩) (Or.inl (by simp)) _) HFB1.out (fun x hx hx2 => ?_)
    · rw [List.length_drop, ← HM.out]
      exact hv9.mono (by have := HW6S.out; have := HW2S.out; have : w6.heap.size = w6.drew.heap.size := rfl; omega)
    · have a := HVB.out x hx
      have b : w6.heap.size = w6.drew.heap.size := rfl
      have c := HW6S.out
      cases vB with
      | none => simp [Value.ownBlock] at hx2
      | some ad =>
        have d := HLT2.out ad rfl
        have e : ad.block = x := by simpa [Value.ownBlock] using hx2
        omega
  by_cases he55 : e1 ≠ 55
  · have g0 : (e1 != 0) = true := by simpa using he0
    have g5 : (e1 != 55) = true := by simpa using he55
    have HFR : Hid (feedR (o0, p0, 55) (o1, p1, e1) = ([], e1)) := Lib.hid (by unfold feedR; rw [if_neg (by rintro (h | h); exact he0 h; exact he55 h)])
    have HS4 := Lib.hid (HST.out t u w4 HB4.out HO4.out (fun h => by omega) (fun h => by omega))
    clear HST HPS HQ he0 he55 HRD HGB HGR2
    go_wp2_with fail
    go_ret2
    exact HFH.out (.int .i64 0) e1 _ _ HFR HS4.out HK4.out HFB1.out
  · obtain rfl : e1 = 55 := Classical.not_not.1 he55
    clear he55
    obtain ⟨w6, hw6⟩ : ∃ w6, w6 = w4 := ⟨_, rfl⟩
    rw [← hw6] at HB4 HO4 HK4 HGB HGR2 HW4S ⊢
    clear hw6 HRD HQ he0
    have HB6 := HB4
    have HO6 := HO4
    have HK6 := HK4
    have HGB6 := HGB
    have HGR6 := HGR2
    have HW6S := HW4S
    obtain ⟨U, hU⟩ : ∃ U, U = u := ⟨_, rfl⟩
    have HUQ : Hid ((55 : Int) = 0 → U = (p1 + 7) / 8) := Lib.hid (fun h => by simp at h)
    rw [← hU] at HB6
    clear hU HB4 HO4 HK4 HGB HGR2 HW4S
    have HFR : Hid (feedR (o0, p0, 55) (o1, p1, 55) = (o1.drop t, 0)) := Lib.hid (by unfold feedR; rw [if_pos (.inr rfl), HTO.out])
    have HTT : Hid ((55 : Int) = 55 ∨ (55 : Int) = 0 → o1.length = o1.length) := Lib.hid (fun _ => rfl)
    go_upto_region 14 with (fail)
    have k1 := HGB6.out.cell 1
    have k2 := HB6.out.cell 2
    simp only [List.getElem?_cons_zero, List.getElem?_cons_succ] at k1 k2
    have htl : t ≤ o1.length := by rw [HTO.out]; exact HPRE.out.length_le
    obtain ⟨M, hM⟩ : ∃ M, M = o1.length := ⟨_, rfl⟩
    have HM := Lib.hid hM
    have hMb : M ≤ 4000000000 := by rw [hM]; have := inflF_le (fed ++ b) most; rw [← HR1.out] at this; simp only [] at this; omega
    rw [← hM] at k1 htl HGR6 HTT
    have HGC' : Hid (M ≤ vcG) := Lib.hid (by rw [hM]; exact HGC.out)
    have HCN := Lib.hid (cutA_nil (l := t) (n := M) (c := vcG) (fun h => by have := HGN.out h; rw [hM]; exact this))
    clear hM
    have HRC := Lib.hid (HGR6.out.cut HGP.out htl HGC'.out)
    have hsl := fun w => slice_from8 w vG M vcG t t rfl htl
    go_still_tail 9, (by kernel_rfl)
    change wpList _ _ _ _ _ w6.drew
    have hdr := (Keeps.refl [] w6).drew
    have HBd := Lib.hid (HB6.out.keeps hdr (by simp))
    have HOd := Lib.hid (own_keeps HO6.out hdr (by simp))
    have HKd := Lib.hid (HK6.out.trans (hdr.mono (by simp)))
    have HRCd := Lib.hid (HRC.out.keeps hdr (off_nil _))
    have HGBd := Lib.hid (HGB6.out.keeps hdr (by simp))
    clear hdr HB6 HO6 HK6 HRC HGB6 HGR6 k1 k2 hsl
    go_wp2_with fail
    refine (bclone_calls w6.drew (cutA vG t vcG) (M - t) (vcG - t) (o1.drop t) HRCd.out HCN.out (by omega)).mono ?_
    rintro _ w7 ⟨v7, rfl, ho7, hb7⟩
    have hk7 := Keeps.of_below hb7 (S := [])
    have hb8 := HBd.out.keeps hk7 (by simp)
    have HB7 := Lib.hid hb8
    have HO7 := Lib.hid (own_keeps HOd.out hk7 (by simp))
    have HK7 := Lib.hid (HKd.out.trans (hk7.mono (by simp)))
    have hg7 := HGBd.out.keeps hk7 (by simp)
    have k1 := hg7.cell 1
    simp only [List.getElem?_cons_zero, List.getElem?_cons_succ] at k1
    rw [← HM.out] at k1
    have HV7 := Lib.hid ho7
    obtain ⟨A7, c7, rfl⟩ := own_formW ho7
    have f2 := hb8.frozen 2
    have j2 := hb8.cell 2
    simp only [List.getElem?_cons_zero, List.getElem?_cons_succ] at j2
    have HVB : Hid (∀ x, (Value.slice A7 (M - t) c7).ownBlock = some x → w6.drew.heap.size ≤ x) := Lib.hid (fun x hx => own_lo HV7.out x hx)
    clear hb8 ho7 hb7 hk7 hg7 HBd HOd HKd HRCd HGBd
    go_wp2_with fail
    go_ret2
    have hb9 := HB7.out.set 2 (.int .i64 M)
    simp only [List.set_cons_succ, List.set_cons_zero] at hb9
    have ho9 := ownsRow_setCell_below HO7.out (a := ⟨s, 2, none⟩) (Nat.lt_succ_self s) (.int .i64 M)
    have hv9 := own_keeps HV7.out (S := [s]) ((Keeps.refl [s] w7).setCell (p := ⟨s, 2, none⟩) (Or.inl (by simp)) (.int .i64 M)) (fun x hx hm => by have := HVB.out x hx; rw [List.mem_singleton.1 hm] at this; have := HW6S.out; have : w6.heap.size = w6.drew.heap.size := rfl; omega)
    refine HFT.out _ _ _ _ HFR ?_ (HST.out M U _ hb9 ho9 (fun _ => HM.out) HUQ.out) (HK7.out.setCell (p := ⟨s, 2, none⟩) (Or.inl (by simp)) _) HFB1.out (fun x hx hx2 => ?_)
    · rw [List.length_drop, ← HM.out]
      exact hv9.mono (by have := HW6S.out; have := HW2S.out; have : w6.heap.size = w6.drew.heap.size := rfl; omega)
    · have a := HVB.out x hx
      have b : w6.heap.size = w6.drew.heap.size := rfl
      have c := HW6S.out
      cases vB with
      | none => simp [Value.ownBlock] at hx2
      | some ad =>
        have d := HLT2.out ad rfl
        have e : ad.block = x := by simpa [Value.ownBlock] using hx2
        omega
end Go.Proofs.YtcblibefmclloaaDoor
