/-
  A stream tells, of whatever parts, just what is laid so far, and what is wrong as soon as it is.
-/
import Derived.Test.YtcblibefmclloaaDoorIStrJ
import Derived.Test.YtcblibefmclloaaDoorIStrL
set_option linter.unusedVariables false
set_option linter.unusedSimpArgs false
namespace Go.Proofs.YtcblibefmclloaaDoor
open Go.RowKit
set_option maxRecDepth 100000 in
set_option maxHeartbeats 4000000 in
theorem inflateAll_walk (w : World) (A : Option Addr) (n c : Nat) (bs : List Int) (most : Int) (hT : Tabs w) (hb : RI .u8 w A n bs) (hm : n ≤ maxLen) (hnil : A = none → n = 0 ∧ c = 0) (hwf : ∀ x ∈ bs, (Lit.int .u8 x).wf = true) (hC : CapOk A n c) (hk1 : (Lit.int .i64 most).wf = true) :
    Calls Tryd.prog 7 #[.slice A n c, .int .i64 most] w fun e w' => e = .returned (.bool true) ∧ Keeps [] w w' := by
  have HT := Lib.hid hT
  have HB := Lib.hid hb
  have HN := Lib.hid hnil
  have HY := Lib.hid (byte_ofwf hwf)
  have HLB := Lib.hid hb.len
  obtain ⟨i1, i2⟩ := int_ofwf hk1
  unfold maxLen at hm
  clear hT hb hnil hwf hC hk1
  go_enter Tryd.func7, Tryd.ntmps7
  by_cases h1 : 65536 < n
  · have e1 : decide (65536 < n) = true := by simpa using h1
    have e1' : decide ((65536 : Int) < (n : Int)) = true := by simp; omega
    go_wp2_with fail
    go_ret
    exact ⟨rfl, Keeps.refl _ _⟩
  have e1 : decide (65536 < n) = false := by simpa using h1
  have e1' : decide ((65536 : Int) < (n : Int)) = false := by simp; omega
  go_wp2_with fail
  clear e1 e1'
  refine (lend_calls w A n c bs HB.out (by omega)).mono ?_
  rintro _ w1 ⟨g, rfl, hl1, hg1, hb1⟩
  have hk1 := Keeps.of_below hb1 (S := [])
  have HL1 := Lib.hid hl1
  have HG : Hid (w.heap.size ≤ g) := Lib.hid hg1
  have HK1 := Lib.hid hk1
  have HB1 := Lib.hid (HB.out.keeps hk1 (off_nil _))
  have HT1 := Lib.hid (HT.out.keeps hk1 (by simp))
  have HRL : Hid (RI .u8 w1 (some ⟨g, 0, none⟩) n bs) := Lib.hid (by have := hl1.ri; rwa [HLB.out] at this)
  clear hl1 hg1 hb1 hk1
  go_wp2_with fail
  refine (inflateU_calls w1 (some ⟨g, 0, none⟩) n (n + 2) bs most HT1.out HRL.out (by simp) HY.out (by omega)).mono ?_
  rintro _ w2 ⟨v2, rfl, ho2, hb2, hu2⟩
  obtain ⟨r, hr⟩ : ∃ r, r = inflR bs most := ⟨_, rfl⟩
  have HR := Lib.hid hr
  rw [← hr] at ho2 ⊢
  obtain ⟨o, p, er⟩ := r
  simp only [] at ho2 ⊢
  have hob : o.length ≤ 16384 := by
    by_cases he : (inflR bs most).2.2 = 0
    · have h1 := (inflR_le he).2
      obtain ⟨_, h2, _⟩ := inflR_ok he
      rw [← hr] at h1
      simp only [] at h1
      omega
    · have := (inflR_bad he).1
      rw [← hr] at this
      simp only [] at this
      rw [this]; simp
  obtain ⟨A2, c2, rfl⟩ := own_formW ho2
  obtain ⟨L, hL⟩ : ∃ L, L = o.length := ⟨_, rfl⟩
  rw [← hL] at ho2 hu2 hob ⊢
  have HLO := Lib.hid hL
  have hk2 := Keeps.of_below hb2 (S := [])
  have HO2 := Lib.hid ho2
  have HU2 := Lib.hid hu2
  have HK2 := Lib.hid (HK1.out.trans hk2)
  have HL2 : Hid (Lent8 w2 g bs) := Lib.hid (Blk.keeps HL1.out hk2 (by simp))
  have HB2 := Lib.hid (HB1.out.keeps hk2 (off_nil _))
  have HGS : Hid (g < w1.heap.size) := Lib.hid (Blk.lt HL1.out)
  clear hr ho2 hu2 hb2 hk2 hL HL1 HK1 HB1 HT1 HRL
  go_wp2_with fail
  refine (back_keep_calls w2 g A n c bs HL2.out HLB.out HB2.out (by omega)).mono ?_
  rintro _ w3 ⟨rfl, hk3⟩
  have hgx : ∀ {x : Nat}, w1.heap.size ≤ x → x ∉ [g] := fun h hm => by have := HGS.out; rw [List.mem_singleton.1 hm] at h; omega
  have HK3 := Lib.hid (HK2.out.then hk3 (fun x hx => .inr (by rw [List.mem_singleton.1 hx]; exact HG.out)))
  have HO3 := Lib.hid (own_keeps HO2.out hk3 (fun x hx => hgx (own_lo HO2.out x hx)))
  have HU3 := Lib.hid (HU2.out.keeps hk3 (fun x hx => hgx (own_lo HO2.out x hx)))
  have HB3 := Lib.hid (HB.out.keeps HK3.out (off_nil _))
  have HSZ3 : Hid (∀ x, (Value.slice A2 L c2).ownBlock = some x → x < w3.heap.size) := Lib.hid (fun x hx => own_hi HO3.out x hx)
  have HW1 : Hid (w.heap.size ≤ w1.heap.size) := Lib.hid (by have := HG.out; have := HGS.out; omega)
  clear hk3 hgx HK2 HO2 HU2 HL2 HB2 HGS
  go_wp2_with fail
  refine (rinflate_calls w3 A n c bs most HB3.out HY.out (by omega)).mono ?_
  rintro _ w4 ⟨B2, d2, rfl, hr4, hlo4, hk4⟩
  rw [← HR.out] at hr4 ⊢
  simp only [] at hr4 ⊢
  rw [← HLO.out] at hr4 ⊢
  have HR4 := Lib.hid hr4
  have HB24 : Hid (∀ a, B2 = some a → w3.heap.size ≤ a.block) := Lib.hid hlo4
  have HK4 := Lib.hid (HK3.out.trans hk4)
  have HO4 := Lib.hid (own_keeps HO3.out hk4 (by simp))
  have HU4 := Lib.hid (HU3.out.keeps hk4 (by simp))
  clear hr4 hlo4 hk4 HK3 HO3 HU3 HB3
  obtain ⟨A2', c2', hv, hri, -, -⟩ := own_ri HO4.out
  injection hv with q1 q2 q3
  subst q1
  subst q3
  have HRI := Lib.hid hri
  clear hri q2
  go_wp2_with fail
  refine (keepBytes_calls w4 A2 B2 L L c2 d2 o o HRI.out HR4.out (by omega) (by omega)).mono ?_
  rintro _ w5 ⟨rfl, hd5⟩
  rw [beq_self_eq_true]
  have hk5 := hd5.keeps (S := [])
  have HK5 := Lib.hid (HK4.out.trans hk5)
  have HO5 := Lib.hid (own_keeps HO4.out hk5 (by simp))
  have HU5 := Lib.hid (HU4.out.keeps hk5 (by simp))
  have HR5 := Lib.hid (HR4.out.keeps hk5 (off_nil _))
  clear hd5 hk5 HK4 HO4 HU4 HR4 HRI
  go_wp2_with fail
  refine (spoil_calls w5 w1.heap.size A2 L c2 o HO5.out HU5.out).mono ?_
  rintro _ w6 ⟨rfl, hk6⟩
  have HK6 := Lib.hid (HK5.out.then hk6 (fun x hx => .inr (Nat.le_trans HW1.out (own_lo HO5.out x (Option.mem_toList.1 hx)))))
  have HR6 := Lib.hid (HR5.out.keeps hk6 (fun a ha hm => by
    have h1 := HB24.out a ha
    have h2 := HSZ3.out a.block (Option.mem_toList.1 hm)
    omega))
  have HB6 := Lib.hid (HB.out.keeps HK6.out (off_nil _))
  have HT6 := Lib.hid (HT.out.keeps HK6.out (by simp))
  clear hk6 HK5 HO5 HU5 HR5 HB24 HSZ3
  go_wp2_with fail
  refine (inflate_calls w6 A n c bs most HT6.out HB6.out HN.out HY.out (by omega)).mono ?_
  rintro _ w7 ⟨v7, rfl, ho7, hb7⟩
  rw [← HR.out] at ho7 ⊢
  simp only [] at ho7 ⊢
  rw [← HLO.out] at ho7
  obtain ⟨A7, c7, rfl, hr7, -, -⟩ := own_ri ho7
  have hk7 := Keeps.of_below hb7 (S := [])
  have HK7 := Lib.hid (HK6.out.trans hk7)
  have HR7 := Lib.hid (HR6.out.keeps hk7 (off_nil _))
  have HR77 := Lib.hid hr7
  have HT7 := Lib.hid (HT6.out.keeps hk7 (by simp))
  clear ho7 hb7 hr7 hk7 HK6 HR6 HB6 HT6
  go_wp2_with fail
  refine (awake5_calls w7 HT7.out).mono ?_
  rintro _ w8 ⟨rfl, hk8⟩
  have HK8 := Lib.hid (HK7.out.trans hk8)
  have HR8 := Lib.hid (HR7.out.keeps hk8 (off_nil _))
  have HR78 := Lib.hid (HR77.out.keeps hk8 (off_nil _))
  clear hk8 HK7 HR7 HR77 HT7
  go_wp2_with fail
  refine (keepBytes_calls w8 A7 B2 L L c7 d2 o o HR78.out HR8.out (by omega) (by omega)).mono ?_
  rintro _ w9 ⟨rfl, hd9⟩
  rw [beq_self_eq_true]
  have HK9 := Lib.hid (HK8.out.trans (hd9.keeps (S := [])))
  clear hd9 HK8 HR8 HR78
  go_wp2_with fail
  go_ret
  exact ⟨rfl, HK9.out⟩
end Go.Proofs.YtcblibefmclloaaDoor

set_option linter.unusedVariables false
set_option linter.unusedSimpArgs false
namespace Go.Proofs.YtcblibefmclloaaDoor
open Go.RowKit
/-- Where a part of bytes ends. -/
def cutF (at_ n : Nat) (sizes : List Int) (i : Nat) : Nat := if sizes.length ≤ i ∨ nth sizes i < 0 ∨ (n : Int) - at_ < nth sizes i then n else at_ + (nth sizes i).toNat
theorem cutF_bd {at_ n : Nat} (h : at_ ≤ n) (sizes : List Int) (i : Nat) : at_ ≤ cutF at_ n sizes i ∧ cutF at_ n sizes i ≤ n := by
  unfold cutF
  split <;> omega
theorem cutF_last {at_ n : Nat} (sizes : List Int) (i : Nat) (h : sizes.length ≤ i) : cutF at_ n sizes i = n := by unfold cutF; rw [if_pos (.inl h)]
set_option maxRecDepth 100000 in
set_option maxHeartbeats 1000000 in
theorem cuts_calls (w : World) (at_ n : Nat) (A : Option Addr) (m c : Nat) (sizes : List Int) (i : Nat) (hr : RI .i64 w A m sizes) (hat : at_ ≤ n) (hn : n ≤ 1000000) (hm : m ≤ 1000000) (hi : i ≤ 1000000) :
    Calls Tryd.prog 38 #[.int .i64 at_, .int .i64 n, .slice A m c, .int .i64 i] w fun e w' => e = .returned (.int .i64 (cutF at_ n sizes i)) ∧ Dr w w' := by
  have HC : Hid (cutF at_ n sizes i = if sizes.length ≤ i ∨ nth sizes i < 0 ∨ (n : Int) - at_ < nth sizes i then n else at_ + (nth sizes i).toNat) := Lib.hid rfl
  have hl := hr.len
  go_enter Tryd.func38, Tryd.ntmps38
  by_cases h1 : m ≤ i
  · have e1 : decide (m ≤ i) = true := by simpa using h1
    have e1' : decide ((m : Int) ≤ (i : Int)) = true := by simp; omega
    have HE := Lib.hid (HC.out.trans (if_pos (.inl (by omega))))
    clear hr hl
    go_wp2_with fail
    go_ret
    rw [HE.out]
    exact ⟨rfl, 0, rfl⟩
  have e1 : decide (m ≤ i) = false := by simpa using h1
  have e1' : decide ((m : Int) ≤ (i : Int)) = false := by simp; omega
  obtain ⟨b, o, rfl, hc⟩ := hr.at (show i < m by omega)
  have hni : ¬ sizes.length ≤ i := by omega
  have HNI := Lib.hid hni
  clear hr hl hni
  obtain ⟨x, hx⟩ : ∃ x, x = nth sizes i := ⟨_, rfl⟩
  rw [← hx] at hc HC
  clear hx
  by_cases h2 : x < 0
  · have e2 : decide (x < 0) = true := by simpa using h2
    have HE := Lib.hid (HC.out.trans (if_pos (.inr (.inl h2))))
    go_wp2_with fail
    go_ret
    rw [HE.out]
    exact ⟨rfl, 0, rfl⟩
  have e2 : decide (x < 0) = false := by simpa using h2
  by_cases h3 : (n : Int) - at_ < x
  · have e3 : decide ((n : Int) - at_ < x) = true := by simpa using h3
    have HE := Lib.hid (HC.out.trans (if_pos (.inr (.inr h3))))
    go_wp2_with fail
    go_ret
    rw [HE.out]
    exact ⟨rfl, 0, rfl⟩
  have e3 : decide ((n : Int) - at_ < x) = false := by simpa using h3
  have HE : Hid (((cutF at_ n sizes i : Nat) : Int) = at_ + x) := Lib.hid (by
    rw [HC.out, if_neg (by rintro (h | h | h); exact HNI.out h; exact h2 h; exact h3 h)]; omega)
  go_wp2_with fail
  go_ret
  rw [HE.out]
  exact ⟨rfl, 0, rfl⟩
theorem parts_step {r0 r1 : IRes} {al : List Int} {m : Nat} (hx : Ext r0 r1) (ha : r0.2.2 = 0 ∨ r0.2.2 = 55 → al = r0.1) (hl : al.length ≤ m) (hl1 : r1.1.length ≤ m) :
    (r1.2.2 = 0 ∨ r1.2.2 = 55 → al ++ (feedR r0 r1).1 = r1.1) ∧ (al ++ (feedR r0 r1).1).length ≤ m := by
  by_cases h1 : r1.2.2 = 0 ∨ r1.2.2 = 55
  · have hf : (feedR r0 r1).1 = r1.1.drop r0.1.length := by unfold feedR; rw [if_pos h1]
    have h0 : r0.2.2 = 0 ∨ r0.2.2 = 55 := by
      by_cases h : r0.2.2 = 55
      · exact .inr h
      · rw [hx.1 h] at h1; exact h1
    have hp : r0.1 <+: r1.1 := by
      by_cases h : r0.2.2 = 55
      · exact hx.2 h
      · rw [hx.1 h]; exact List.prefix_refl _
    obtain ⟨t, ht⟩ := hp
    have e : al ++ (feedR r0 r1).1 = r1.1 := by
      rw [hf, ha h0, ← ht, List.drop_left]
    exact ⟨fun _ => e, by rw [e]; exact hl1⟩
  · have hf : (feedR r0 r1).1 = [] := by unfold feedR; rw [if_neg h1]
    rw [hf, List.append_nil]
    exact ⟨fun h => absurd h h1, hl⟩
set_option maxRecDepth 100000 in
set_option maxHeartbeats 4000000 in
theorem inflateParts_walk (w : World) (A : Option Addr) (n c : Nat) (bs : List Int) (most : Int) (B1 : Option Addr) (m1 d1 : Nat) (one : List Int) (B2 : Option Addr) (m2 d2 : Nat) (two : List Int) (hT : Tabs w)
    (hb : RI .u8 w A n bs) (hm : n ≤ maxLen) (hnil : A = none → n = 0 ∧ c = 0) (hwf : ∀ x ∈ bs, (Lit.int .u8 x).wf = true) (hC : CapOk A n c) (hk1 : (Lit.int .i64 most).wf = true)
    (hb1 : RI .i64 w B1 m1 one) (hm1 : m1 ≤ maxLen) (hnil1 : B1 = none → m1 = 0 ∧ d1 = 0) (hwf1 : ∀ x ∈ one, (Lit.int .i64 x).wf = true)
    (hb2 : RI .i64 w B2 m2 two) (hm2 : m2 ≤ maxLen) (hnil2 : B2 = none → m2 = 0 ∧ d2 = 0) (hwf2 : ∀ x ∈ two, (Lit.int .i64 x).wf = true) :
    Calls Tryd.prog 9 #[.slice A n c, .int .i64 most, .slice B1 m1 d1, .slice B2 m2 d2] w fun e w' => e = .returned (.bool true) ∧ Keeps [] w w' := by
  have HT := Lib.hid hT
  have HB := Lib.hid hb
  have HB1 := Lib.hid hb1
  have HB2 := Lib.hid hb2
  have HN := Lib.hid hnil
  have HY := Lib.hid (byte_ofwf hwf)
  have HCC := Lib.hid hC
  have HLB := Lib.hid hb.len
  obtain ⟨i1, i2⟩ := int_ofwf hk1
  unfold maxLen at hm hm1 hm2
  clear hT hb hb1 hb2 hnil hnil1 hnil2 hwf hwf1 hwf2 hC hk1
  go_enter Tryd.func9, Tryd.ntmps9
  by_cases h1 : 5000 < n
  · have e1 : decide (5000 < n) = true := by simpa using h1
    have e1' : decide ((5000 : Int) < (n : Int)) = true := by simp; omega
    go_wp2_with fail
    go_ret
    exact ⟨rfl, Keeps.refl _ _⟩
  have e1 : decide (5000 < n) = false := by simpa using h1
  have e1' : decide ((5000 : Int) < (n : Int)) = false := by simp; omega
  by_cases h2 : 100 < m1
  · have e2 : decide (100 < m1) = true := by simpa using h2
    have e2' : decide ((100 : Int) < (m1 : Int)) = true := by simp; omega
    go_wp2_with fail
    go_ret
    exact ⟨rfl, Keeps.refl _ _⟩
  have e2 : decide (100 < m1) = false := by simpa using h2
  have e2' : decide ((100 : Int) < (m1 : Int)) = false := by simp; omega
  by_cases h3 : 100 < m2
  · have e3 : decide (100 < m2) = true := by simpa using h3
    have e3' : decide ((100 : Int) < (m2 : Int)) = true := by simp; omega
    go_wp2_with fail
    go_ret
    exact ⟨rfl, Keeps.refl _ _⟩
  have e3 : decide (100 < m2) = false := by simpa using h3
  have e3' : decide ((100 : Int) < (m2 : Int)) = false := by simp; omega
  have hn5 : n ≤ 5000 := by omega
  have hm11 : m1 ≤ 100 := by omega
  have hm22 : m2 ≤ 100 := by omega
  go_wp2_with fail
  clear e1 e1' e2 e2' e3 e3' h1 h2 h3
  refine (inflate_calls w A n c bs most HT.out HB.out HN.out HY.out (by omega)).mono ?_
  rintro _ w1 ⟨v1, rfl, ho1, hb1⟩
  have HDEF : Hid (inflR bs most = if most < 0 ∨ 16384 < most then ([], 0, 1) else if (inflF bs most.toNat).2.2 ≠ 0 then ([], 0, (inflF bs most.toNat).2.2) else ((inflF bs most.toNat).1, ((inflF bs most.toNat).2.1 + 7) / 8, 0)) := Lib.hid rfl
  obtain ⟨r, hr⟩ : ∃ r, r = inflR bs most := ⟨_, rfl⟩
  rw [← hr] at ho1 HDEF ⊢
  clear hr
  obtain ⟨o1, p1, er⟩ := r
  simp only [] at ho1 ⊢
  obtain ⟨A1, c1, rfl, hr1, -, -⟩ := own_ri ho1
  have hk1 := Keeps.of_below hb1 (S := [])
  have HK1 := Lib.hid hk1
  have HR := Lib.hid hr1
  have HT1 := Lib.hid (HT.out.keeps hk1 (by simp))
  have HBB := Lib.hid (HB.out.keeps hk1 (off_nil _))
  have HO := Lib.hid (HB1.out.keeps hk1 (off_nil _))
  have HW := Lib.hid (HB2.out.keeps hk1 (off_nil _))
  obtain ⟨M, hM⟩ : ∃ M, M = o1.length := ⟨_, rfl⟩
  have HM := Lib.hid hM
  rw [← hM] at HR
  rw [← hM]
  clear ho1 hb1 hr1 hk1 HT HB HB1 HB2 hM
  go_wp2_with fail
  go_loopw [12] (fun kv wr => ∃ k : Nat, k ≤ 2 ∧ kv = .int .i64 k ∧ Hid (Keeps [] w1 wr)) (fun kv _ => 2 - (intOf kv).toNat)
  case atStart => exact ⟨0, by omega, rfl, Lib.hid (Keeps.refl _ _)⟩
  case round =>
    obtain ⟨k, hk, rfl, HK⟩ := hrel
    obtain ⟨wo, rfl⟩ : ∃ wo : World, wo = wr := ⟨_, rfl⟩
    by_cases hk2 : k < 2
    · have e1 : decide ((k : Int) < 2) = true := by simp; omega
      go_upto_if 48 with (fail)
      go_cut [13] (fun v13 wc => ∃ (SA : Option Addr) (sn sc : Nat) (sz : List Int), v13 = .slice SA sn sc ∧ sn ≤ 100 ∧ Hid (RI .i64 w1 SA sn sz) ∧ wc = wo)
      case first =>
        by_cases hkk : k = 1
        · subst hkk
          go_wp2_with fail
          go_meet
          exact ⟨B2, m2, d2, two, rfl, hm22, HW, rfl⟩
        · have e2 : ((k : Int) == 1) = false := by simp; omega
          go_wp2_with fail
          go_meet
          exact ⟨B1, m1, d1, one, rfl, hm11, HO, rfl⟩
      case rest =>
        obtain ⟨SA, sn, sc, sz, rfl, hsn, HS, rfl⟩ := hcut
        go_wp2_with fail
        refine (inew_calls wc most).mono ?_
        rintro _ w2 ⟨hbadn, hgood⟩
        by_cases hmv : most < 0 ∨ 16384 < most
        · obtain ⟨rfl, hk3⟩ := hbadn hmv
          have hd := HDEF.out
          rw [if_pos hmv] at hd
          injection hd with q1 q2
          injection q2 with q2 q3
          subst q3
          have HK2 := Lib.hid (HK.out.trans hk3)
          clear hbadn hgood hk3 HDEF hmv
          go_wp2_with fail
          refine (awake5_calls w2 (HT1.out.keeps HK2.out (by simp))).mono ?_
          rintro _ w3 ⟨rfl, hk4⟩
          have HK3 := Lib.hid (HK1.out.trans (HK2.out.trans hk4))
          clear hk4
          go_wp2_with fail
          go_ret
          exact ⟨rfl, HK3.out⟩
        obtain ⟨N, rfl⟩ := Int.eq_ofNat_of_zero_le (show 0 ≤ most by omega)
        have hN : N ≤ 16384 := by omega
        obtain ⟨s, rfl, hst, hs, hk3⟩ := hgood N rfl hN
        have hd := HDEF.out
        rw [if_neg hmv, Int.toNat_natCast] at hd
        have HD2 := Lib.hid hd
        have HK2 := Lib.hid (HK.out.trans hk3)
        have HST := Lib.hid hst
        have HSW : Hid (w1.heap.size ≤ s) := Lib.hid (Nat.le_trans HK.out.size hs)
        have HSG : Hid (gtop ≤ s) := Lib.hid (by have := HT1.out.size; have := HSW.out; omega)
        have HWS : Hid (s < w2.heap.size) := Lib.hid hst.lt
        have HSL := Lib.hid HS.out.len
        clear hbadn hgood hk3 HDEF hmv hst hs hd HK
        go_wp2_with fail
        go_loopw [16, 17, 18] (fun u av iv wr => ∃ (i at_ : Nat) (al : List Int) (fb : Option Nat), i ≤ sn + 1 ∧ iv = .int .i64 i ∧ av = .int .i64 at_ ∧ at_ ≤ n ∧ (i = sn + 1 → at_ = n) ∧ al.length ≤ N ∧
          Hid ((inflF (bs.take at_) N).2.2 = 0 ∨ (inflF (bs.take at_) N).2.2 = 55 → al = (inflF (bs.take at_) N).1) ∧ Hid (wr.ownsRow (s + 1) 5 1 u al.length (ints .u8 al)) ∧ Hid (Strm wr s N (bs.take at_) fb) ∧
          Hid (∀ x, fb = some x → w1.heap.size ≤ x) ∧ Hid (∀ x, u.ownBlock = some x → fb ≠ some x) ∧ Hid (Keeps [] w1 wr)) (fun _ _ iv _ => sn + 1 - (intOf iv).toNat)
        case atStart =>
          refine ⟨0, 0, [], none, by omega, rfl, rfl, by omega, fun h => by omega, by simp, Lib.hid ?_, Lib.hid (World.ownsRow_nil _ _ _ _), Lib.hid ?_, Lib.hid (fun x h => by cases h), Lib.hid (fun x h => by simp [Value.ownBlock] at h), HK2⟩
          · rw [List.take_zero, inflF_nil]; intro _; rfl
          · rw [List.take_zero]; exact HST.out
        case round =>
          clear HST HK2
          obtain ⟨i, at_, al, fb, hi, rfl, rfl, hat, hlast, hal, HAL, HU, HST, HFB, HDJ, HK⟩ := hrel
          obtain ⟨uA, uc, rfl⟩ := own_formW HU.out
          have hlen : (bs.take at_).length = at_ := by rw [List.length_take, HLB.out]; omega
          have HLT := Lib.hid hlen
          clear hlen
          by_cases hlt : i ≤ sn
          · have e3 : decide (i ≤ sn) = true := by simpa using hlt
            have e3' : decide ((i : Int) ≤ (sn : Int)) = true := by simp; omega
            go_wp2_with fail
            refine (cuts_calls wr at_ n SA sn sc sz i (HS.out.keeps HK.out (off_nil _)) hat (by omega) (by omega) (by omega)).mono ?_
            rintro _ w3 ⟨rfl, hd3⟩
            obtain ⟨b1, b2⟩ := cutF_bd hat sz i
            have HLC : Hid (sn ≤ i → cutF at_ n sz i = n) := Lib.hid (fun h => cutF_last sz i (by rw [HSL.out]; exact h))
            obtain ⟨en, hen⟩ : ∃ en, en = cutF at_ n sz i := ⟨_, rfl⟩
            rw [← hen] at b1 b2 HLC ⊢
            clear hen
            have hk3 := hd3.keeps (S := [])
            have HK3 := Lib.hid (HK.out.trans hk3)
            have HU3 := Lib.hid (own_keeps HU.out hk3 (by simp))
            have HST3 := Lib.hid (HST.out.keeps hk3 (by simp))
            have HX := Lib.hid (inflF_ext (bs.take at_) ((bs.take en).drop at_) N)
            have hcat : bs.take at_ ++ (bs.take en).drop at_ = bs.take en := by
              have h1 : bs.take at_ = (bs.take en).take at_ := by rw [List.take_take, Nat.min_eq_left b1]
              rw [h1, List.take_append_drop]
            rw [hcat] at HX
            have HCAT := Lib.hid hcat
            have HPR := Lib.hid (HBB.out.keeps HK3.out (off_nil _) |>.mid HCC.out b1 b2)
            have HPN := Lib.hid (cut_nil_mid HCC.out HN.out b1 b2)
            have hsl := fun w => slice_mid8 w A n c at_ en at_ en rfl rfl b1 b2 HCC.out
            clear hd3 hk3 HK HU HST hcat
            go_wp2_with fail
            clear hsl
            refine (feed_calls w3 s N (bs.take at_) fb (cutA A at_ c) (en - at_) (c - at_) ((bs.take en).drop at_) HST3.out (HT1.out.keeps HK3.out (by simp)) HSG.out HPR.out HPN.out (fun j => ?_) (by rw [HLT.out]; omega)).mono ?_
            · have e : nth ((bs.take en).drop at_) j = if at_ + j < en then nth bs (at_ + j) else 0 := by
                simp only [nth, List.getD, List.getElem?_drop, List.getElem?_take]
                split <;> rfl
              rw [e]
              split
              · exact HY.out _
              · omega
            rintro _ w4 ⟨v4, fb4, rfl, ho4, hst4, hk4, hfb4, hdj4⟩
            rw [HCAT.out] at ho4 hst4 ⊢
            have hps := parts_step HX.out HAL.out hal (inflF_le (bs.take en) N)
            obtain ⟨fo, hfo⟩ : ∃ fo, fo = feedR (inflF (bs.take at_) N) (inflF (bs.take en) N) := ⟨_, rfl⟩
            rw [← hfo] at hps ho4 ⊢
            obtain ⟨fo1, fo2⟩ := fo
            simp only [] at hps ho4 ⊢
            clear hfo
            have HPS := Lib.hid hps
            obtain ⟨A4, c4, rfl, hr4, -, hn4, -, -⟩ := own_full ho4
            have HR4 := Lib.hid hr4
            have HN4 := Lib.hid hn4
            have HST4 := Lib.hid hst4
            have HU4 := Lib.hid (own_keeps HU3.out hk4 (fun x hx hm => by
              rcases List.mem_cons.1 hm with h | h
              · have := own_lo HU3.out x hx; omega
              · exact HDJ.out x hx (Option.mem_toList.1 h)))
            have HK4 := Lib.hid (HK3.out.then hk4 (fun x hx => by
              rcases List.mem_cons.1 hx with h | h
              · subst h; exact .inr HSW.out
              · exact .inr (HFB.out x (Option.mem_toList.1 h))))
            have HFB4 : Hid (∀ x, fb4 = some x → w1.heap.size ≤ x) := Lib.hid (fun x hx => by
              rcases hfb4 x hx with h | h
              · exact HFB.out x h
              · exact Nat.le_trans HK3.out.size h)
            have HDJ4 : Hid (∀ x, (Value.slice uA al.length uc).ownBlock = some x → fb4 ≠ some x) := Lib.hid (fun x hx h => by
              rcases hfb4 x h with h2 | h2
              · exact HDJ.out x hx h2
              · have := own_hi HU3.out x hx; omega)
            have HS4 : Hid (s + 1 ≤ w4.heap.size) := Lib.hid hst4.lt
            have hfl : fo1.length ≤ 20000 := by have := hps.2; rw [List.length_append] at this; omega
            clear hps hr4 hn4 hst4 hk4 hfb4 hdj4 ho4 HU3 HK3 HST3 HX HPR HPN HFB HDJ HAL
            go_wp2_with (at_builtin; refine app_bytesB rfl (.tmp 92) (.tmp 93) rfl (s + 1) _ _ al rfl (by exact HU4.out) A4 fo1.length c4 fo1 rfl (by exact HR4.out) HN4.out ?c5 HS4.out ?_)
            case c5 => omega
            intro v5 w5 ho5 hg5 hw5
            have hk5 := grown_keepsI hg5
            have HK5 := Lib.hid (HK4.out.then hk5 (fun x hx => .inr (by have := own_lo HU4.out x (Option.mem_toList.1 hx); have := HSW.out; omega)))
            have HST5 := Lib.hid (show Strm w5 s N (bs.take en) fb4 from by
              obtain ⟨sv, st, su, q1, q2, q3, q4, q5, q6, q7⟩ := HST4.out
              refine ⟨sv, st, su, q1.keeps hk5 (fun hm => by have := own_lo HU4.out s (Option.mem_toList.1 hm); omega), own_keeps q2 hk5 (fun x hx hm => ?_), q3, q4, q5, q6, q7⟩
              exact HDJ4.out x (Option.mem_toList.1 hm) (by rw [← q7]; exact hx))
            have HDJ5 : Hid (∀ x, v5.ownBlock = some x → fb4 ≠ some x) := Lib.hid (fun x hx h => by
              rcases hw5 with e | e
              · rw [e] at hx; exact HDJ4.out x hx h
              · rw [e] at hx
                injection hx with hx
                obtain ⟨sv, st, su, q1, q2, q3, q4, q5, q6, q7⟩ := HST4.out
                have := own_hi q2 x (by rw [q7]; exact h)
                omega)
            have HU5 := Lib.hid (show w5.ownsRow (s + 1) 5 1 v5 (al ++ fo1).length (ints .u8 (al ++ fo1)) by rw [List.length_append]; exact ho5)
            obtain ⟨A5, c5, rfl⟩ := own_formW ho5
            clear ho5 hg5 hw5 hk5 HU4 HK4 HST4 HR4 HN4 HDJ4 HS4
            go_wp2_with fail
            go_roundw
            case rel => exact ⟨i + 1, en, al ++ fo1, fb4, by omega, by go_num, rfl, b2, fun h => HLC.out (by omega), HPS.out.2, Lib.hid HPS.out.1, HU5, HST5, HFB4, HDJ5, HK5⟩
            case measure => simp [intOf]; omega
          · obtain rfl : i = sn + 1 := by omega
            obtain rfl : at_ = n := hlast rfl
            have e3 : decide (sn + 1 ≤ sn) = false := by simp
            have e3' : decide (((sn + 1 : Nat) : Int) ≤ (sn : Int)) = false := by simp; omega
            have hbn : bs.take at_ = bs := List.take_of_length_le (by rw [HLB.out]; omega)
            rw [hbn] at HAL HST
            clear hlast hbn
            have hri := (own_ri HU.out)
            obtain ⟨uA', uc', huv, hru, -, -⟩ := hri
            injection huv with hu1 hu2 hu3
            subst hu1
            subst hu3
            have HRU := Lib.hid hru
            have HRF : Hid (restF bs N = if (inflF bs N).2.2 = 0 then bs.drop (((inflF bs N).2.1 + 7) / 8) else []) := Lib.hid rfl
            have HPOS := Lib.hid (fun h => inflF_pos bs N h)
            have hdn := fun w' (h : Strm w' s N bs fb) => done_calls w' s N bs fb h
            have hcl := fun w' (h : Strm w' s N bs fb) => close_calls w' s N bs fb h
            have hrs := fun w' (h : Strm w' s N bs fb) (hf : bs.length ≤ 4000000000) => rest_calls w' s N bs fb h hf
            have HDN := Lib.hid hdn
            have HCL := Lib.hid hcl
            have HRS := Lib.hid hrs
            clear hru hu2 hdn hcl hrs
            obtain ⟨ir, hir⟩ : ∃ ir, ir = inflF bs N := ⟨_, rfl⟩
            rw [← hir] at HAL HRF HPOS HDN HCL HD2
            clear hir
            obtain ⟨o3, p3, e3r⟩ := ir
            simp only [] at HAL HRF HPOS HDN HCL HD2
            have hal2 : decide ((N : Int) < (al.length : Int)) = false := by simp; omega
            have hal3 : decide (N < al.length) = false := by simp; omega
            go_wp2_with fail
            refine (HCL.out wr HST.out).mono ?_
            rintro _ w3 ⟨rfl, hd3⟩
            have hk3 := hd3.keeps (S := [])
            have HK3 := Lib.hid (HK.out.trans hk3)
            have HST3 := Lib.hid (HST.out.keeps hk3 (by simp))
            have HRU3 := Lib.hid (HRU.out.keeps hk3 (off_nil _))
            clear hd3 hk3 HK HST HRU HU
            by_cases he : e3r = 0
            · subst he
              have hd := HD2.out.trans (if_neg (by simp))
              injection hd with q1 q2
              injection q2 with q2 q3
              have HAE := Lib.hid (HAL.out (.inl rfl))
              have HRE := Lib.hid (HRF.out.trans (if_pos rfl))
              subst q1
              subst q3
              have hpos := HPOS.out rfl
              rw [HLB.out] at hpos
              rw [← q2] at HRE
              have hQn : p1 ≤ at_ := by omega
              clear HD2 HAL HRF HPOS q2 hpos
              go_wp2_with fail
              refine (HDN.out w3 HST3.out).mono ?_
              rintro _ w4 ⟨rfl, hd4⟩
              have hk4 := hd4.keeps (S := [])
              have HK4 := Lib.hid (HK3.out.trans hk4)
              have HST4 := Lib.hid (HST3.out.keeps hk4 (by simp))
              have HRU4 := Lib.hid (HRU3.out.keeps hk4 (off_nil _))
              clear hd4 hk4 HK3 HST3 HRU3
              go_wp2_with fail
              refine (keepBytes_calls w4 uA A1 al.length M uc c1 al o1 HRU4.out (HR.out.keeps HK4.out (off_nil _)) (by omega) (by have := HM.out; have := HAE.out; subst this; omega)).mono ?_
              rintro _ w5 ⟨rfl, hd5⟩
              rw [show (al == o1) = true by rw [HAE.out]; exact beq_self_eq_true _]
              have hk5 := hd5.keeps (S := [])
              have HK5 := Lib.hid (HK4.out.trans hk5)
              have HST5 := Lib.hid (HST4.out.keeps hk5 (by simp))
              clear hd5 hk5 HK4 HST4 HRU4
              go_wp2_with fail
              refine (HRS.out w5 HST5.out (by rw [HLB.out]; omega)).mono ?_
              rintro _ w6 ⟨v6, rfl, ho6, hk6⟩
              rw [HRE.out] at ho6
              obtain ⟨A6, c6, rfl⟩ := own_formW ho6
              obtain ⟨D, hD⟩ : ∃ D, D = at_ - p1 := ⟨_, rfl⟩
              have hl6 : (bs.drop p1).length = D := by rw [List.length_drop, HLB.out, hD]
              rw [hl6]
              have HK6 := Lib.hid (HK5.out.trans hk6)
              have s1 : (at_ : Int) - (p1 : Int) = (D : Int) := by omega
              clear ho6 hk6 hl6 HK5 HST5 hD
              go_wp2_with fail
              go_roundw
              case rel => exact ⟨k + 1, by omega, by go_num, HK6⟩
              case measure => simp [intOf]; omega
            · have hd := HD2.out.trans (if_pos he)
              injection hd with q1 q2
              injection q2 with q2 q3
              subst q3
              clear q1 q2
              have e4 : (er == 0) = false := by simpa using he
              have e5 : decide (er = 0) = false := by simpa using he
              clear HD2 HAL HRF HPOS he
              go_wp2_with fail
              refine (HDN.out w3 HST3.out).mono ?_
              rintro _ w4 ⟨rfl, hd4⟩
              have HK4 := Lib.hid (HK3.out.trans (hd4.keeps (S := [])))
              clear hd4 HK3 HST3 HRU3
              rw [e5]
              go_wp2_with fail
              go_roundw
              case rel => exact ⟨k + 1, by omega, by go_num, HK4⟩
              case measure => simp [intOf]; omega
    · obtain rfl : k = 2 := by omega
      go_wp2_with fail
      refine (awake5_calls wo (HT1.out.keeps HK.out (by simp))).mono ?_
      rintro _ w3 ⟨rfl, hk4⟩
      have HK3 := Lib.hid (HK1.out.trans (HK.out.trans hk4))
      clear hk4
      go_wp2_with fail
      go_ret
      exact ⟨rfl, HK3.out⟩
end Go.Proofs.YtcblibefmclloaaDoor

set_option linter.unusedVariables false
set_option linter.unusedSimpArgs false
namespace Go.Proofs.YtcblibefmclloaaDoor
open Go.RowKit
theorem rest_bad (w : World) (s most : Nat) (fed : List Int) (fb : Option Nat) (h : Strm w s most fed fb) (he : (inflF fed most).2.2 ≠ 0) : Calls Tryd.prog 43 #[.pointer (some ⟨s, 0, none⟩)] w fun e w' => e = .returned (.slice none 0 0) ∧ Dr w w' := by
  have H := Lib.hid h
  have HE : Hid (decide ((inflF fed most).2.2 = 0) = false) := Lib.hid (by simpa using he)
  clear h he
  go_enter Tryd.func43, Tryd.ntmps43
  go_wp2_with fail
  refine (done_calls w s most fed fb H.out).mono ?_
  rintro _ w1 ⟨rfl, hd⟩
  rw [HE.out]
  have HD := Lib.hid hd
  clear hd
  go_wp2_with fail
  go_ret
  exact ⟨rfl, HD.out⟩
theorem Strm.fblt {w : World} {s most : Nat} {fed : List Int} {fb : Option Nat} (h : Strm w s most fed fb) : ∀ x, fb = some x → x < w.heap.size := by
  obtain ⟨v, t, u, h1, h2, h3, h4, h5, h6, h7⟩ := h
  intro x hx
  rw [← h7] at hx
  exact own_hi h2 x hx
set_option maxRecDepth 100000 in
set_option maxHeartbeats 4000000 in
theorem inflateStreams_walk (w : World) (A : Option Addr) (n c : Nat) (bs : List Int) (most : Int) (B1 : Option Addr) (m1 d1 : Nat) (sz : List Int) (hT : Tabs w)
    (hb : RI .u8 w A n bs) (hm : n ≤ maxLen) (hnil : A = none → n = 0 ∧ c = 0) (hwf : ∀ x ∈ bs, (Lit.int .u8 x).wf = true) (hC : CapOk A n c) (hk1 : (Lit.int .i64 most).wf = true)
    (hb1 : RI .i64 w B1 m1 sz) (hm1 : m1 ≤ maxLen) (hnil1 : B1 = none → m1 = 0 ∧ d1 = 0) (hwf1 : ∀ x ∈ sz, (Lit.int .i64 x).wf = true) :
    Calls Tryd.prog 8 #[.slice A n c, .int .i64 most, .slice B1 m1 d1] w fun e w' => e = .returned (.bool true) ∧ Keeps [] w w' := by
  have HT := Lib.hid hT
  have HB := Lib.hid hb
  have HS := Lib.hid hb1
  have HN := Lib.hid hnil
  have HY := Lib.hid (byte_ofwf hwf)
  have HCC := Lib.hid hC
  have HLB := Lib.hid hb.len
  have HSL := Lib.hid hb1.len
  obtain ⟨i1, i2⟩ := int_ofwf hk1
  unfold maxLen at hm hm1
  clear hT hb hb1 hnil hnil1 hwf hwf1 hC hk1
  go_enter Tryd.func8, Tryd.ntmps8
  by_cases h1 : 2000 < n
  · have e1 : decide (2000 < n) = true := by simpa using h1
    have e1' : decide ((2000 : Int) < (n : Int)) = true := by simp; omega
    go_wp2_with fail
    go_ret
    exact ⟨rfl, Keeps.refl _ _⟩
  have e1 : decide (2000 < n) = false := by simpa using h1
  have e1' : decide ((2000 : Int) < (n : Int)) = false := by simp; omega
  by_cases h2 : 50 < m1
  · have e2 : decide (50 < m1) = true := by simpa using h2
    have e2' : decide ((50 : Int) < (m1 : Int)) = true := by simp; omega
    go_wp2_with fail
    go_ret
    exact ⟨rfl, Keeps.refl _ _⟩
  have e2 : decide (50 < m1) = false := by simpa using h2
  have e2' : decide ((50 : Int) < (m1 : Int)) = false := by simp; omega
  have hn5 : n ≤ 2000 := by omega
  have hm11 : m1 ≤ 50 := by omega
  go_wp2_with fail
  clear e1 e1' e2 e2' h1 h2
  refine (inew_calls w most).mono ?_
  rintro _ w2 ⟨hbadn, hgood⟩
  by_cases hneg : most < 0
  · obtain ⟨rfl, hk3⟩ := hbadn (.inl hneg)
    have HK2 := Lib.hid hk3
    have e3 : decide (most < 0) = true := by simpa using hneg
    clear hbadn hgood hk3
    go_wp2_with fail
    refine (awake5_calls w2 (HT.out.keeps HK2.out (by simp))).mono ?_
    rintro _ w3 ⟨rfl, hk4⟩
    have HK3 := Lib.hid (HK2.out.trans hk4)
    clear hk4
    go_wp2_with fail
    go_ret
    exact ⟨rfl, HK3.out⟩
  have e3 : decide (most < 0) = false := by simpa using hneg
  by_cases hbig : 16384 < most
  · obtain ⟨rfl, hk3⟩ := hbadn (.inr hbig)
    have HK2 := Lib.hid hk3
    have e4 : decide (16384 < most) = true := by simpa using hbig
    clear hbadn hgood hk3
    go_wp2_with fail
    refine (awake5_calls w2 (HT.out.keeps HK2.out (by simp))).mono ?_
    rintro _ w3 ⟨rfl, hk4⟩
    have HK3 := Lib.hid (HK2.out.trans hk4)
    clear hk4
    go_wp2_with fail
    go_ret
    exact ⟨rfl, HK3.out⟩
  have e4 : decide (16384 < most) = false := by simpa using hbig
  obtain ⟨N, rfl⟩ := Int.eq_ofNat_of_zero_le (show 0 ≤ most by omega)
  have hN : N ≤ 16384 := by omega
  obtain ⟨s, rfl, hst, hs, hk3⟩ := hgood N rfl hN
  have HK2 := Lib.hid hk3
  have HST := Lib.hid hst
  have HSW : Hid (w.heap.size ≤ s) := Lib.hid hs
  have HSG : Hid (gtop ≤ s) := Lib.hid (by have := HT.out.size; omega)
  clear hbadn hgood hk3 hst hs hneg hbig
  go_wp2_with fail
  clear e3 e4
  go_loopw [9, 10, 11] (fun tv av iv wr => ∃ (i at_ told : Nat) (fb : Option Nat), i ≤ m1 + 1 ∧ iv = .int .i64 i ∧ av = .int .i64 at_ ∧ tv = .int .i64 told ∧ at_ ≤ n ∧ Hid ((inflF (bs.take at_) N).2.2 = 0 ∨ (inflF (bs.take at_) N).2.2 = 55 → told = (inflF (bs.take at_) N).1.length) ∧
    Hid (Strm wr s N (bs.take at_) fb) ∧ Hid (∀ x, fb = some x → w.heap.size ≤ x) ∧ Hid (Keeps [] w wr)) (fun _ _ iv _ => m1 + 1 - (intOf iv).toNat)
  case atStart =>
    refine ⟨0, 0, 0, none, by omega, rfl, rfl, rfl, by omega, Lib.hid ?_, Lib.hid ?_, Lib.hid (fun x h => by cases h), HK2⟩
    · rw [List.take_zero, inflF_nil]; intro _; rfl
    · rw [List.take_zero]; exact HST.out
  case round =>
    clear HST HK2
    obtain ⟨i, at_, told, fb, hi, rfl, rfl, rfl, hat, HTO, HST, HFB, HK⟩ := hrel
    have hlen : (bs.take at_).length = at_ := by rw [List.length_take, HLB.out]; omega
    have HLT := Lib.hid hlen
    clear hlen
    by_cases hlt : i ≤ m1
    · have e3 : decide (i ≤ m1) = true := by simpa using hlt
      have e3' : decide ((i : Int) ≤ (m1 : Int)) = true := by simp; omega
      go_wp2_with fail
      refine (cuts_calls wr at_ n B1 m1 d1 sz i (HS.out.keeps HK.out (off_nil _)) hat (by omega) (by omega) (by omega)).mono ?_
      rintro _ w3 ⟨rfl, hd3⟩
      obtain ⟨b1, b2⟩ := cutF_bd hat sz i
      obtain ⟨en, hen⟩ : ∃ en, en = cutF at_ n sz i := ⟨_, rfl⟩
      rw [← hen] at b1 b2 ⊢
      clear hen e3 e3'
      have hk3 := hd3.keeps (S := [])
      have HK3 := Lib.hid (HK.out.trans hk3)
      have HST3 := Lib.hid (HST.out.keeps hk3 (by simp))
      have hs3 : s < w3.heap.size := HST3.out.lt
      have HFL3 := Lib.hid HST3.out.fblt
      have HK3S : Hid (w.heap.size ≤ w3.heap.size) := Lib.hid HK3.out.size
      have HX := Lib.hid (inflF_ext (bs.take at_) ((bs.take en).drop at_) N)
      have hcat : bs.take at_ ++ (bs.take en).drop at_ = bs.take en := by
        have h1 : bs.take at_ = (bs.take en).take at_ := by rw [List.take_take, Nat.min_eq_left b1]
        rw [h1, List.take_append_drop]
      rw [hcat] at HX
      have HCAT := Lib.hid hcat
      have HPR := Lib.hid (HB.out.keeps HK3.out (off_nil _) |>.mid HCC.out b1 b2)
      have hsl := fun w => slice_mid8 w A n c at_ en at_ en rfl rfl b1 b2 HCC.out
      have HSM := Lib.hid hsl
      clear hd3 hk3 HK HST hcat
      go_wp2_with fail
      clear hsl
      refine (lend_calls w3 (cutA A at_ c) (en - at_) (c - at_) ((bs.take en).drop at_) HPR.out (by omega)).mono ?_
      rintro _ w4 ⟨gx, rfl, hl4, hg4, hb4⟩
      have hk4 := Keeps.of_below hb4 (S := [])
      have HL4 := Lib.hid hl4
      have HGX : Hid (w3.heap.size ≤ gx) := Lib.hid hg4
      have HK4 := Lib.hid (HK3.out.trans hk4)
      have HST4 := Lib.hid (HST3.out.keeps hk4 (by simp))
      have hpl : ((bs.take en).drop at_).length = en - at_ := by rw [List.length_drop, List.length_take, HLB.out]; omega
      have HPL := Lib.hid hpl
      have HPR4 : Hid (RI .u8 w4 (some ⟨gx, 0, none⟩) (en - at_) ((bs.take en).drop at_)) := Lib.hid (by have := hl4.ri; rwa [hpl] at this)
      have HPBY : Hid (∀ j, 0 ≤ nth ((bs.take en).drop at_) j ∧ nth ((bs.take en).drop at_) j ≤ 255) := Lib.hid (fun j => by
        have e : nth ((bs.take en).drop at_) j = if at_ + j < en then nth bs (at_ + j) else 0 := by
          simp only [nth, List.getD, List.getElem?_drop, List.getElem?_take]
          split <;> rfl
        rw [e]
        split
        · exact HY.out _
        · omega)
      clear hl4 hg4 hb4 hk4 hpl HK3 HST3
      go_wp2_with fail
      refine (feed_calls w4 s N (bs.take at_) fb (some ⟨gx, 0, none⟩) (en - at_) (en - at_ + 2) ((bs.take en).drop at_) HST4.out (HT.out.keeps HK4.out (by simp)) HSG.out HPR4.out (by simp) HPBY.out (by rw [HLT.out]; omega)).mono ?_
      rintro _ w5 ⟨v5, fb5, rfl, ho5, hst5, hk5, hfb5, hdj5⟩
      rw [HCAT.out] at ho5 hst5 ⊢
      have HFR : Hid (feedR (inflF (bs.take at_) N) (inflF (bs.take en) N) = if (inflF (bs.take en) N).2.2 = 0 ∨ (inflF (bs.take en) N).2.2 = 55 then ((inflF (bs.take en) N).1.drop (inflF (bs.take at_) N).1.length, 0) else ([], (inflF (bs.take en) N).2.2)) := Lib.hid rfl
      obtain ⟨fo, hfo⟩ : ∃ fo, fo = feedR (inflF (bs.take at_) N) (inflF (bs.take en) N) := ⟨_, rfl⟩
      rw [← hfo] at ho5 HFR ⊢
      obtain ⟨fo1, fo2⟩ := fo
      simp only [] at ho5 ⊢
      clear hfo
      obtain ⟨A5, c5, rfl⟩ := own_formW ho5
      have HO5 := Lib.hid ho5
      have HST5 := Lib.hid hst5
      have hgxs : s < gx := by have := HGX.out; omega
      have HL5 : Hid (Lent8 w5 gx ((bs.take en).drop at_)) := Lib.hid (Blk.keeps HL4.out hk5 (fun hm => by
        rcases List.mem_cons.1 hm with e | e
        · omega
        · have := HFL3.out gx (Option.mem_toList.1 e); have := HGX.out; omega))
      have HK5 := Lib.hid (HK4.out.then hk5 (fun x hx => by
        rcases List.mem_cons.1 hx with e | e
        · subst e; exact .inr HSW.out
        · exact .inr (HFB.out x (Option.mem_toList.1 e))))
      have HFB5 : Hid (∀ x, fb5 = some x → w.heap.size ≤ x) := Lib.hid (fun x hx => by
        rcases hfb5 x hx with e | e
        · exact HFB.out x e
        · have := HK4.out.size; omega)
      have hg4lt : gx < w4.heap.size := Blk.lt HL4.out
      have HFG5 : Hid (∀ x, fb5 = some x → x ≠ gx) := Lib.hid (fun x hx => by
        rcases hfb5 x hx with e | e
        · have := HFL3.out x e; have := HGX.out; omega
        · omega)
      have HPR5 := Lib.hid (HB.out.keeps HK5.out (off_nil _) |>.mid HCC.out b1 b2)
      clear ho5 hst5 hk5 hfb5 hdj5 HL4 HK4 HST4 HPR HPR4 HPBY HFB HFL3
      have hsl := HSM.out
      go_wp2_with fail
      clear hsl
      refine (back_keep_calls w5 gx (cutA A at_ c) (en - at_) (c - at_) ((bs.take en).drop at_) HL5.out HPL.out HPR5.out (by omega)).mono ?_
      rintro _ w6 ⟨rfl, hk6⟩
      have HK6 := Lib.hid (HK5.out.then hk6 (fun x hx => .inr (by rw [List.mem_singleton.1 hx]; have := HGX.out; have := HK3S.out; omega)))
      have HST6 := Lib.hid (show Strm w6 s N (bs.take en) fb5 from by
        obtain ⟨sv, st, su, q1, q2, q3, q4, q5, q6, q7⟩ := HST5.out
        refine ⟨sv, st, su, q1.keeps hk6 (fun hm => by have := List.mem_singleton.1 hm; omega), own_keeps q2 hk6 (fun x hx hm => ?_), q3, q4, q5, q6, q7⟩
        exact HFG5.out x (by rw [← q7]; exact hx) (List.mem_singleton.1 hm))
      have HO6 := Lib.hid (own_keeps HO5.out hk6 (fun x hx hm => by have := own_lo HO5.out x hx; have := List.mem_singleton.1 hm; omega))
      have HBT := Lib.hid ((HB.out.keeps HK6.out (off_nil _)).take b2)
      have hsl := fun w => slice_to8 w A n c en en rfl b2 HCC.out
      clear hk6 HK5 HST5 HO5 HL5 HPR5 HFG5
      go_wp2_with fail
      clear hsl
      have HTY : Hid (∀ j, 0 ≤ nth (bs.take en) j ∧ nth (bs.take en) j ≤ 255) := Lib.hid (fun j => by
        by_cases hj : j < en
        · rw [nth_take _ _ _ hj]; exact HY.out j
        · have e : nth (bs.take en) j = 0 := by simp [nth, List.getD, List.getElem?_take, hj]
          rw [e]; omega)
      refine (rread_calls w6 A en c (bs.take en) N HBT.out HTY.out (by omega) hN).mono ?_
      rintro _ w7 ⟨gr, RB, RM, rc, q, rob, rfl, hrd, hqp, hgr, hk7⟩
      have hk7' := hk7
      have HK7 := Lib.hid (HK6.out.trans hk7)
      have HST7 := Lib.hid (HST6.out.keeps hk7 (by simp))
      have HO7 := Lib.hid (own_keeps HO6.out hk7 (by simp))
      have hpos := fun h => inflF_pos (bs.take en) N h
      have hle := inflF_le (bs.take en) N
      have hrest : restF (bs.take en) N = if (inflF (bs.take en) N).2.2 = 0 then (bs.take en).drop (((inflF (bs.take en) N).2.1 + 7) / 8) else [] := rfl
      have hlen : (bs.take en).length = en := by rw [List.length_take, HLB.out]; omega
      have hdn := fun w' (h : Strm w' s N (bs.take en) fb5) => done_calls w' s N (bs.take en) fb5 h
      have hcl := fun w' (h : Strm w' s N (bs.take en) fb5) => close_calls w' s N (bs.take en) fb5 h
      have hrs := fun w' (h : Strm w' s N (bs.take en) fb5) => rest_calls w' s N (bs.take en) fb5 h (by omega)
      have hrb := fun w' (h : Strm w' s N (bs.take en) fb5) (he : (inflF (bs.take en) N).2.2 ≠ 0) => rest_bad w' s N (bs.take en) fb5 h he
      have HDN := Lib.hid hdn
      have HCL := Lib.hid hcl
      have HRS := Lib.hid hrs
      have HRB := Lib.hid hrb
      have HFR2 := HFR.out
      obtain ⟨r0, hr0⟩ : ∃ r0, r0 = inflF (bs.take at_) N := ⟨_, rfl⟩
      obtain ⟨r1, hr1⟩ : ∃ r1, r1 = inflF (bs.take en) N := ⟨_, rfl⟩
      rw [← hr0] at HTO HX HFR2
      rw [← hr1] at HX HFR2 hpos hle hrest HDN HCL HRB hrd hqp
      have HR1 := Lib.hid hr1
      obtain ⟨o0, p0, e0⟩ := r0
      obtain ⟨o1, p1, e1⟩ := r1
      simp only [] at HTO HX HFR2 hpos hle hrest HDN HCL HRB hrd hqp
      clear hdn hcl hrs hrb hk7 hk7' HK6 HST6 HO6 HFR hr0 hr1 HBT HTY
      have HRD := Lib.hid hrd
      obtain ⟨-, c1, -, c4, -⟩ := hrd.cells
      have HQP := Lib.hid hqp
      have HPOS := Lib.hid hpos
      have HLE := Lib.hid hle
      have HREST := Lib.hid hrest
      have HLEN := Lib.hid hlen
      have HFR3 := Lib.hid HFR2
      clear hqp hpos hle hrest hlen HFR2 hrd hgr
      by_cases hbad : e1 ≠ 0 ∧ e1 ≠ 55
      · obtain ⟨hz, h55⟩ := hbad
        have hfr := HFR3.out
        rw [if_neg (by rintro (h | h); exact hz h; exact h55 h)] at hfr
        injection hfr with hf1 hf2
        subst hf1
        subst hf2
        have x1 : (fo2 == 0) = false := by simpa using hz
        have x2 : (fo2 != 55) = true := by simpa using h55
        have x3 : decide (fo2 = 0) = false := by simpa using hz
        have hdn : ∀ j, Calls Tryd.prog 41 #[.pointer (some ⟨s, 0, none⟩)] (w7.drewN j) fun e w' => e = .returned (.bool false) ∧ ∃ m, w' = (w7.drewN j).drewN m := fun j => by
          have := HDN.out (w7.drewN j) (HST7.out.keeps ((Keeps.refl [] w7).drewN j) (by simp))
          rwa [x3] at this
        have hcl : ∀ j, Calls Tryd.prog 42 #[.pointer (some ⟨s, 0, none⟩)] (w7.drewN j) fun e w' => e = .returned (.int .i64 fo2) ∧ ∃ m, w' = (w7.drewN j).drewN m := fun j => HCL.out (w7.drewN j) (HST7.out.keeps ((Keeps.refl [] w7).drewN j) (by simp))
        have hrb : ∀ j, Calls Tryd.prog 43 #[.pointer (some ⟨s, 0, none⟩)] (w7.drewN j) fun e w' => e = .returned (.slice none 0 0) ∧ ∃ m, w' = (w7.drewN j).drewN m := fun j => HRB.out (w7.drewN j) (HST7.out.keeps ((Keeps.refl [] w7).drewN j) (by simp)) hz
        have HQD := Lib.hid hdn
        have HQC := Lib.hid hcl
        have HQR := Lib.hid hrb
        have HNE : Hid (¬ ((inflF (bs.take en) N).2.2 = 0 ∨ (inflF (bs.take en) N).2.2 = 55)) := Lib.hid (by rw [← HR1.out]; rintro (h | h); exact hz h; exact h55 h)
        clear hdn hcl hrb hz h55 HX HTO HFR3 HQP HPOS HLE HREST
        go_wp2_with fail
        go_quiet (first | (go_at_call 41; exact Calls.quiet_of (HQD.out _)) | (go_at_call 42; exact Calls.quiet_of (HQC.out _)) | (go_at_call 43; exact Calls.quiet_of (HQR.out _)))
        go_wp2_with fail
        go_roundw
        case rel => exact ⟨i + 1, en, told, fb5, by omega, by go_num, rfl, rfl, b2, Lib.hid (fun h => absurd h HNE.out), Lib.hid (HST7.out.keeps ((Keeps.refl [] w7).drewN _) (by simp)), HFB5, Lib.hid (HK7.out.drewN _)⟩
        case measure => simp [intOf]; omega
      · have hok : e1 = 0 ∨ e1 = 55 := by
          by_cases h : e1 = 0
          · exact .inl h
          · exact .inr (Classical.byContradiction fun h2 => hbad ⟨h, h2⟩)
        have hfr := HFR3.out
        rw [if_pos hok] at hfr
        injection hfr with hf1 hf2
        have h0 : e0 = 0 ∨ e0 = 55 := by
          by_cases h : e0 = 55
          · exact .inr h
          · have := HX.out.1 h
            injection this with _ q2
            injection q2 with _ q3
            rw [q3] at hok
            exact hok
        have hto := HTO.out h0
        have hpre : o0 <+: o1 := by
          by_cases h : e0 = 55
          · exact HX.out.2 h
          · have := HX.out.1 h
            injection this with q1 _
            rw [q1]; exact List.prefix_refl _
        have htl : told ≤ o1.length := by rw [hto]; exact hpre.length_le
        rw [← hto] at hf1
        subst hf1
        subst hf2
        clear hbad h0 hto hpre HX HTO HFR3
        obtain ⟨rv, rbox, rown, -⟩ := HRD.out.box
        obtain ⟨RA, rcc, rfl, rri, rcap, rnil, rpl, rlt⟩ := own_full rown
        have c2 := rbox.cell 2
        simp only [List.getElem?_cons_zero, List.getElem?_cons_succ] at c2
        obtain ⟨L, hL⟩ : ∃ L, L = o1.length := ⟨_, rfl⟩
        have HL := Lib.hid hL
        have hLb : L ≤ 16384 := by rw [hL]; have := HLE.out; omega
        rw [← hL] at c2 rri rcap htl
        have HRC := Lib.hid (rri.cut rpl htl rcap)
        have hsl := fun w => slice_from8 w RA L rcc told told rfl htl
        have HSF := Lib.hid hsl
        have hdl : (o1.drop told).length = L - told := by rw [List.length_drop, hL]
        rw [hdl] at HO7 ⊢
        obtain ⟨A5', c5', hv5, hri5, -, -⟩ := own_ri HO7.out
        injection hv5 with q1 q2 q3
        subst q1
        subst q3
        have HRI5 := Lib.hid hri5
        clear rbox rown rri rcap rnil rpl rlt hdl hri5 q2 HO7 hL
        have x0 : decide ((L : Int) < (told : Int)) = false := by simp; omega
        have x0' : decide (L < told) = false := by simp; omega
        have HPOST : Hid (∀ (w9 : World), Strm w9 s N (bs.take en) fb5 → Keeps [] w w9 → Hid ((inflF (bs.take en) N).2.2 = 0 ∨ (inflF (bs.take en) N).2.2 = 55 → L = (inflF (bs.take en) N).1.length)) := Lib.hid (fun _ _ _ => Lib.hid (fun _ => by rw [← HR1.out]; exact HL.out))
        rcases hok with rfl | rfl
        · have y1 : decide ((0 : Int) = 0) = true := by decide
          go_wp2_with fail
          refine (keepBytes_calls w7 A5 (cutA RA told rcc) (L - told) (L - told) c5 (rcc - told) (o1.drop told) (o1.drop told) HRI5.out HRC.out (by omega) (by omega)).mono ?_
          rintro _ w8 ⟨rfl, hd8⟩
          rw [beq_self_eq_true]
          have hk8 := hd8.keeps (S := [])
          have HK8 := Lib.hid (HK7.out.trans hk8)
          have HST8 := Lib.hid (HST7.out.keeps hk8 (by simp))
          have HRD8 := Lib.hid (HRD.out.keeps hk8)
          clear hd8 hk8 HK7 HST7 HRD HRI5 HRC hsl
          go_wp2_with fail
          refine (HDN.out w8 HST8.out).mono ?_
          rintro _ w9 ⟨rfl, hd9⟩
          have hk9 := hd9.keeps (S := [])
          have HK9 := Lib.hid (HK8.out.trans hk9)
          have HST9 := Lib.hid (HST8.out.keeps hk9 (by simp))
          have HRD9 := Lib.hid (HRD8.out.keeps hk9)
          rw [y1]
          obtain ⟨-, c1, -, c4, rA, rC, c2, -⟩ := HRD9.out.cells
          rw [← HL.out] at c2
          have hsm := fun w => slice_mid8 w A n c en en en en rfl rfl (Nat.le_refl _) b2 HCC.out
          have hqe := HQP.out (by simp)
          subst hqe
          have hpp := HPOS.out (by simp)
          rw [HLEN.out] at hpp
          obtain ⟨Q, hQ⟩ : ∃ Q, Q = (q + 7) / 8 := ⟨_, rfl⟩
          have hQe : Q ≤ en := by omega
          have t1 : ((q : Int) + 7) / 8 = (Q : Int) := by omega
          have hsm2 := fun w => slice_mid8 w A n c Q en Q en rfl rfl hQe b2 HCC.out
          have HREST2 : Hid (restF (bs.take en) N = (bs.take en).drop Q) := Lib.hid (by rw [HREST.out, hQ]; exact if_pos (by simp))
          clear hQ
          clear hd9 hk9 HK8 HST8 HRD8
          go_wp2_with fail
          clear hsm hsm2 t1
          refine (HRS.out w9 HST9.out).mono ?_
          rintro _ w10 ⟨v10, rfl, ho10, hk10⟩
          rw [HREST2.out] at ho10
          obtain ⟨A10, c10, rfl, hri10, -, -⟩ := own_ri ho10
          have HK10 := Lib.hid (HK9.out.trans hk10)
          have HST10 := Lib.hid (HST9.out.keeps hk10 (by simp))
          have HRI10 := Lib.hid hri10
          have HBR := Lib.hid ((HB.out.keeps HK10.out (off_nil _)).mid HCC.out hQe b2)
          clear ho10 hri10 hk10 HK9 HST9
          have hl10 : ((bs.take en).drop Q).length = en - Q := by rw [List.length_drop, HLEN.out]
          rw [hl10] at HRI10 ⊢
          clear hl10
          go_wp2_with fail
          refine (keepBytes_calls w10 A10 (cutA A Q c) _ (en - Q) c10 (c - Q) ((bs.take en).drop Q) ((bs.take en).drop Q) HRI10.out HBR.out (by omega) (by omega)).mono ?_
          rintro _ w11 ⟨rfl, hd11⟩
          rw [show (((bs.take en).drop Q) == (bs.take en).drop Q) = true by exact beq_self_eq_true _]
          have hk11 := hd11.keeps (S := [])
          have HK11 := Lib.hid (HK10.out.trans hk11)
          have HST11 := Lib.hid (HST10.out.keeps hk11 (by simp))
          clear hd11 hk11 HK10 HST10 HRI10 HBR
          go_wp2_with fail
          refine (HCL.out w11 HST11.out).mono ?_
          rintro _ w12 ⟨rfl, hd12⟩
          have hk12 := hd12.keeps (S := [])
          have HK12 := Lib.hid (HK11.out.trans hk12)
          have HST12 := Lib.hid (HST11.out.keeps hk12 (by simp))
          have HTO12 := HPOST.out w12 HST12.out HK12.out
          clear hd12 hk12 HK11 HST11 HPOST
          go_wp2_with fail
          go_roundw
          case rel => exact ⟨i + 1, en, L, fb5, by omega, by go_num, rfl, rfl, b2, HTO12, HST12, HFB5, HK12⟩
          case measure => simp [intOf]; omega
        · have y1 : decide ((55 : Int) = 0) = false := by decide
          go_wp2_with fail
          refine (keepBytes_calls w7 A5 (cutA RA told rcc) (L - told) (L - told) c5 (rcc - told) (o1.drop told) (o1.drop told) HRI5.out HRC.out (by omega) (by omega)).mono ?_
          rintro _ w8 ⟨rfl, hd8⟩
          rw [beq_self_eq_true]
          have hk8 := hd8.keeps (S := [])
          have HK8 := Lib.hid (HK7.out.trans hk8)
          have HST8 := Lib.hid (HST7.out.keeps hk8 (by simp))
          have HRD8 := Lib.hid (HRD.out.keeps hk8)
          clear hd8 hk8 HK7 HST7 HRD HRI5 HRC hsl
          go_wp2_with fail
          refine (HDN.out w8 HST8.out).mono ?_
          rintro _ w9 ⟨rfl, hd9⟩
          have hk9 := hd9.keeps (S := [])
          have HK9 := Lib.hid (HK8.out.trans hk9)
          have HST9 := Lib.hid (HST8.out.keeps hk9 (by simp))
          have HRD9 := Lib.hid (HRD8.out.keeps hk9)
          rw [y1]
          obtain ⟨-, c1, -, c4, rA, rC, c2, -⟩ := HRD9.out.cells
          rw [← HL.out] at c2
          have hsm := fun w => slice_mid8 w A n c en en en en rfl rfl (Nat.le_refl _) b2 HCC.out
          have HREST2 : Hid (restF (bs.take en) N = []) := Lib.hid (by rw [HREST.out]; exact if_neg (by simp))
          clear hd9 hk9 HK8 HST8 HRD8
          go_wp2_with fail
          clear hsm
          refine (HRS.out w9 HST9.out).mono ?_
          rintro _ w10 ⟨v10, rfl, ho10, hk10⟩
          rw [HREST2.out] at ho10
          obtain ⟨A10, c10, rfl, hri10, -, -⟩ := own_ri ho10
          have HK10 := Lib.hid (HK9.out.trans hk10)
          have HST10 := Lib.hid (HST9.out.keeps hk10 (by simp))
          have HRI10 := Lib.hid hri10
          have hbr := (HB.out.keeps HK10.out (off_nil _)).mid HCC.out (Nat.le_refl en) b2
          rw [Nat.sub_self, show (bs.take en).drop en = [] from List.drop_of_length_le (by rw [HLEN.out]; exact Nat.le_refl _)] at hbr
          have HBR := Lib.hid hbr
          have hri10' : RI .u8 w10 A10 0 ([] : List Int) := HRI10.out
          have HRI10' := Lib.hid hri10'
          clear hbr hri10' HRI10
          clear ho10 hri10 hk10 HK9 HST9
          go_wp2_with fail
          refine (keepBytes_calls w10 A10 (cutA A en c) 0 0 c10 (c - en) ([] : List Int) ([] : List Int) HRI10'.out HBR.out (by omega) (by omega)).mono ?_
          rintro _ w11 ⟨rfl, hd11⟩
          rw [show (([] : List Int) == ([] : List Int)) = true from rfl]
          have hk11 := hd11.keeps (S := [])
          have HK11 := Lib.hid (HK10.out.trans hk11)
          have HST11 := Lib.hid (HST10.out.keeps hk11 (by simp))
          clear hd11 hk11 HK10 HST10 HRI10' HBR
          go_wp2_with fail
          refine (HCL.out w11 HST11.out).mono ?_
          rintro _ w12 ⟨rfl, hd12⟩
          have hk12 := hd12.keeps (S := [])
          have HK12 := Lib.hid (HK11.out.trans hk12)
          have HST12 := Lib.hid (HST11.out.keeps hk12 (by simp))
          have HTO12 := HPOST.out w12 HST12.out HK12.out
          clear hd12 hk12 HK11 HST11 HPOST
          go_wp2_with fail
          go_roundw
          case rel => exact ⟨i + 1, en, L, fb5, by omega, by go_num, rfl, rfl, b2, HTO12, HST12, HFB5, HK12⟩
          case measure => simp [intOf]; omega
    · obtain rfl : i = m1 + 1 := by omega
      have e3 : decide (m1 + 1 ≤ m1) = false := by simp
      have e3' : decide (((m1 + 1 : Nat) : Int) ≤ (m1 : Int)) = false := by simp; omega
      go_wp2_with fail
      refine (awake5_calls wr (HT.out.keeps HK.out (by simp))).mono ?_
      rintro _ w3 ⟨rfl, hk4⟩
      have HK3 := Lib.hid (HK.out.trans hk4)
      clear hk4
      go_wp2_with fail
      go_ret
      exact ⟨rfl, HK3.out⟩
end Go.Proofs.YtcblibefmclloaaDoor

/-
  A stream tells, of whatever parts, just what is laid so far, and what is wrong as soon as it is.
-/
set_option linter.unusedVariables false
set_option linter.unusedSimpArgs false
namespace Go.Proofs.YtcblibefmclloaaDoor.inflateStreams
open Go.ChangeShapes Go.WideShapes Go.ChangeAt Go.RowKit
set_option maxRecDepth 100000 in
theorem contract (H : Type) (enc : TypeId × Value → H) (W : World) (base : Nat) (args : Array Value) (ds gs : List (DataW H)) (before : List MemPlace)
    (hval : ∀ (j : Nat) t v, Tryd.f8.params[j]? = some t → args[j]? = some v → Value.okWide Tryd.prog W .any base t v)
    (hW : DataW.Whole enc Tryd.prog Tryd.f8.params.toList Rows.inflateStreamsSpec.vars false W args.toList ds gs before) (hL : laidMetH Tryd.prog Rows.inflateStreamsRow.laid W) :
    Calls Tryd.prog 8 args W fun e W' => ∃ v, e = .returned v ∧ Rows.inflateStreamsSpec.post enc Tryd.prog Tryd.f8 false true false false W args v W' := by
  have hT : Tabs W := tabs_of (laidMet.filter (fun x => x.1 == "haversack/lens.order" || x.1 == "haversack/lens.wide" || x.1 == "haversack/lens.from") hL)
  have hW' := hW
  obtain ⟨p, q, hA0, hV, rfl, hfz, hnd⟩ := hW
  have hA : DataW.TrodAll enc Tryd.prog W 0 (fun _ => true) true Tryd.f8.params.toList args.toList ds p := hA0
  rw [Tryd.params8] at hA hval
  obtain ⟨v0, vs0, d0, ds0, p0, q0, hargs, rfl, rfl, h0, r0⟩ := trodAll_cons hA
  obtain ⟨v1, vs1, d1, ds1, p1, q1, rfl, rfl, rfl, h1, r1⟩ := trodAll_cons r0
  obtain ⟨v2, vs2, d2, ds2, p2, q2, rfl, rfl, rfl, h2, r2⟩ := trodAll_cons r1
  obtain ⟨rfl, rfl, rfl⟩ := trodAll_nil r2
  obtain rfl : args = #[v0, v1, v2] := by cases args; simp_all
  obtain ⟨rfl, rfl⟩ := trodVars_none hV
  obtain ⟨a0, len0, cap0, rfl⟩ := okWide_slice Tryd.underlying37 (hval 0 37 v0 rfl rfl)
  have k0 := h0
  have lt0 : ∀ x ∈ p0, x.block < W.heap.size := by obtain ⟨m, hm⟩ := k0; exact DataW.trod_lt m _ _ _ hm
  obtain ⟨z0, w0, m0, n0, y0, q0C⟩ := ri_cameC Tryd.underlying37 Tryd.underlying5 cellsU8 h0
  obtain ⟨a1, rfl, rfl, rfl, w1⟩ := open_int Tryd.underlying3 (hval 1 3 v1 rfl rfl) h1
  obtain ⟨a2, len2, cap2, rfl⟩ := okWide_slice Tryd.underlying22 (hval 2 22 v2 rfl rfl)
  have k2 := h2
  have lt2 : ∀ x ∈ p2, x.block < W.heap.size := by obtain ⟨m, hm⟩ := k2; exact DataW.trod_lt m _ _ _ hm
  obtain ⟨z2, w2, m2, n2, y2⟩ := ri_came Tryd.underlying22 Tryd.underlying3 cellsInt h2
  clear hA0
  refine (inflateStreams_walk W a0 len0 cap0 z0 a1 a2 len2 cap2 z2 hT w0 m0 n0 y0 q0C w1 w2 m2 n2 y2).mono fun e W' ⟨he, hk⟩ => ?_
  have bel := hk.below
  subst he
  exact ⟨_, rfl, _, _, _, [], _, [], hW', trodAll_mk1 (shut_bool Tryd.underlying4 _), (trodAll_cons_mk (Below.trod laidOut (by kernel_rfl) (of_decide_eq_true (by kernel_rfl)) k0 bel lt0) (trodAll_cons_mk (shut_int Tryd.underlying3 w1) (trodAll_cons_mk (Below.trod laidOut (by kernel_rfl) (of_decide_eq_true (by kernel_rfl)) k2 bel lt2) trodAll_mk0))), rfl, bel.frame _, fun h => by cases h⟩
theorem reads (os : Os) {H : Type} (enc : TypeId × Value → H) : ∃ places, DataW.whole enc Tryd.prog ((laidWorld os).forCall (fun _ _ => 0) ⟨#[], #[.slice none 0 0, .int .i64 0, .slice none 0 0], []⟩).memory Tryd.f8.params.toList Rows.inflateStreamsSpec.vars false #[Value.slice none 0 0, .int .i64 0, .slice none 0 0].toList 8 = some ([.nil, .lit (.int .i64 0), .nil], [], places) :=
  ⟨[], by kernel_rfl⟩
set_option maxRecDepth 100000 in
theorem lifted (os : Os) (started : os.Started) (H : Type) (enc : TypeId × Value → H) (F : Stop.Interp) :
    ReturnsInHanded {} Tryd.checked os 8 .any ((OpenSpec.ofChange Rows.inflateStreamsSpec).preRow enc Tryd.prog Tryd.f8 Rows.inflateStreamsRow.domain false Rows.inflateStreamsRow.laid) (((OpenSpec.ofChange Rows.inflateStreamsSpec).at F).post enc Tryd.prog Tryd.f8 false true false false) := by
  obtain ⟨places, hx⟩ := reads os enc
  refine returnsInHanded_of_row (C := Tryd.checked) (s := OpenSpec.ofChange Rows.inflateStreamsSpec) own started (by kernel_rfl) Tryd.func8
    (witness_row_at (enc := enc) (C := Tryd.checked) false (laidWorld os) #[.slice none 0 0, .int .i64 0, .slice none 0 0] rfl (by kernel_rfl) (by kernel_rfl) (by kernel_rfl)
      (OpenSpec.preRow_of_cond 8 hx (by kernel_rfl) (fun k hk => by cases hk) (by kernel_rfl) (laid_met os _))) ?_
  intro W base args ds gs before hval hW _ _ _ hL _ _
  exact contract H enc W base args ds gs before hval hW hL
theorem said : Rows.InflateStreamsSaid :=
  OpenClaim.holds_of_cond 8 Tryd.f8 rfl rfl rfl rfl rfl rfl rfl ⟨rfl, rfl, rfl, rfl, rfl⟩ rfl rfl rfl rfl rfl (by kernel_rfl) Tryd.func8 (by kernel_rfl)
    (of_decide_eq_true (by kernel_rfl)) (by unfold Func.isWrapper; first | (rw [if_pos (by decide +kernel)]; kernel_rfl) | (rw [if_neg (by decide +kernel)]; exact ⟨rfl, rfl⟩))
    (fun os started H enc _ F => by rw [OpenClaim.pre_eq_preRow]; exact lifted os started H enc F)
theorem plain (f : FuncId) (fn : Func) (hf : Tryd.pinned.checked.prog.funcNamed "haversack/haversacklaw05.InflateStreams" = some f) (hfn : Tryd.pinned.checked.prog.funcs[f]? = some fn) :
    false = Tryd.pinned.checked.prog.looks [] ∧ ∀ (j : Nat) t, fn.params[j]? = some t → Tryd.pinned.checked.prog.wantsStandIn t = false := by
  obtain rfl : f = 8 := Option.some.inj ((show Tryd.prog.funcNamed "haversack/haversacklaw05.InflateStreams" = some 8 by kernel_rfl).symm.trans hf) |>.symm
  obtain rfl : fn = Tryd.f8 := (Option.some.inj (Tryd.func8.symm.trans hfn)).symm
  refine ⟨by kernel_rfl, fun j t ht => ?_⟩
  rw [Tryd.params8] at ht
  have hm := Array.mem_of_getElem? ht
  have hm2 : t = 37 ∨ t = 3 ∨ t = 22 := by simpa using hm
  rcases hm2 with rfl | rfl | rfl
  · exact (show Tryd.prog.wantsStandIn 37 = false by kernel_rfl)
  · exact (show Tryd.prog.wantsStandIn 3 = false by kernel_rfl)
  · exact (show Tryd.prog.wantsStandIn 22 = false by kernel_rfl)
/-- The card. -/
theorem card : Rows.InflateStreamsCardSaid :=
  Claim7.holds_tied_plain_at .later [] _ _ _ _ said (fun _ h => by cases h) (by kernel_rfl) (fun _ h => by cases h) inflateStreams_row_tie rfl ⟨rfl, rfl⟩ (by kernel_rfl) rfl plain (by kernel_rfl)
#print axioms card
end Go.Proofs.YtcblibefmclloaaDoor.inflateStreams
