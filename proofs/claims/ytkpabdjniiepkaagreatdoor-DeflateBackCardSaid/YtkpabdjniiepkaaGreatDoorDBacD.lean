/-
  What is deflated is inflated to itself, at once and in parts; of any bytes.
-/
import Derived.Test.YtkpabdjniiepkaaGreatDoorDflO
import Derived.Test.YtkpabdjniiepkaaGreatDoorDBacC
import Derived.Test.YtkpabdjniiepkaaGreatDoorDflL
import Derived.Test.YtkpabdjniiepkaaGreatDoorDBacA
set_option linter.unusedVariables false
set_option linter.unusedSimpArgs false
/-! law07.DeflateBack. -/
namespace Go.Proofs.YtkpabdjniiepkaaGreatDoor
open Go.RowKit
theorem back_err {ys : List Int} {N : Nat} (h : (inflF ys N).2.2 = 0) (k : Nat) : (inflF (ys.take k) N).2.2 = 0 ∨ (inflF (ys.take k) N).2.2 = 55 := by
  have hx := inflF_ext (ys.take k) (ys.drop k) N
  rw [List.take_append_drop] at hx
  by_cases h5 : (inflF (ys.take k) N).2.2 = 55
  · exact .inr h5
  · have := hx.1 h5; rw [this] at h; exact .inl h
theorem back_ok {r0 r1 : IRes} (h : r1.2.2 = 0 ∨ r1.2.2 = 55) : (feedR r0 r1).2 = 0 := by unfold feedR; rw [if_pos h]
set_option maxRecDepth 100000 in
set_option maxHeartbeats 4000000 in
theorem deflateBack_walk (w : World) (A : Option Addr) (n c : Nat) (bs : List Int) (B : Option Addr) (sn sc : Nat) (sz : List Int) (hT : Tabs w)
    (hb : RI .u8 w A n bs) (hm : n ≤ maxLen) (hnil : A = none → n = 0 ∧ c = 0) (hwf : ∀ x ∈ bs, (Lit.int .u8 x).wf = true) (ho : ∀ a, A = some a → a.block < w.heap.size)
    (hb1 : RI .i64 w B sn sz) (hm1 : sn ≤ maxLen) (hnil1 : B = none → sn = 0 ∧ sc = 0) (hwf1 : ∀ x ∈ sz, (Lit.int .i64 x).wf = true) :
    Calls Tryz.prog 3 #[.slice A n c, .slice B sn sc] w fun e w' => e = .returned (.bool true) ∧ Keeps [] w w' := by
  have HT := Lib.hid hT
  have HB := Lib.hid hb
  have HS := Lib.hid hb1
  have HN := Lib.hid hnil
  have hby := byte_ofwf hwf
  have HY := Lib.hid hby
  have HBA : Hid (∀ x ∈ bs, 0 ≤ x ∧ x ≤ 255) := Lib.hid (fun x hx => by
    obtain ⟨j, hj, rfl⟩ := List.mem_iff_getElem.1 hx
    have := hby j
    rwa [nth_lt hj] at this)
  have HLB := Lib.hid hb.len
  have HSL := Lib.hid hb1.len
  have HA := Lib.hid ho
  unfold maxLen at hm hm1
  clear hT hb hb1 hnil hnil1 hwf hwf1 ho hby
  go_enter Tryz.func3, Tryz.ntmps3
  by_cases h1 : 65536 < n
  · have e1 : decide (65536 < n) = true := by simpa using h1
    have e1' : decide ((65536 : Int) < (n : Int)) = true := by simp; omega
    go_wp2_with fail
    go_ret
    exact ⟨rfl, Keeps.refl _ _⟩
  have e1 : decide (65536 < n) = false := by simpa using h1
  have e1' : decide ((65536 : Int) < (n : Int)) = false := by simp; omega
  by_cases h2 : 100 < sn
  · have e2 : decide (100 < sn) = true := by simpa using h2
    have e2' : decide ((100 : Int) < (sn : Int)) = true := by simp; omega
    go_wp2_with fail
    go_ret
    exact ⟨rfl, Keeps.refl _ _⟩
  have e2 : decide (100 < sn) = false := by simpa using h2
  have e2' : decide ((100 : Int) < (sn : Int)) = false := by simp; omega
  have hsn : sn ≤ 100 := by omega
  go_wp2_with fail
  refine (deflate_calls w A n c bs HT.out HB.out HN.out HA.out HY.out).mono ?_
  rintro e w1 (⟨q1, rfl, hb2⟩ | ⟨q1, g2, m2, c2, ys, rfl, hr2, hg2, hd2, hb2, hcap⟩)
  · have HK1 := Lib.hid (Keeps.of_below hb2 (S := []))
    have x1 : decide (16384 < n) = true := by simpa using q1
    have x1' : decide ((16384 : Int) < (n : Int)) = true := by simp; omega
    clear hb2 e1 e1' e2 e2'
    go_wp2_with fail
    refine (awake7_calls w1 (HT.out.keeps HK1.out (by simp))).mono ?_
    rintro _ w2 ⟨rfl, hk⟩
    have HK2 := Lib.hid (HK1.out.trans hk)
    clear hk
    go_wp2_with fail
    go_ret
    exact ⟨rfl, HK2.out⟩
  have hk1 := Keeps.of_below hb2 (S := [])
  have HK1 := Lib.hid hk1
  have HB1 := Lib.hid (HB.out.keeps hk1 (off_nil _))
  have HS1 := Lib.hid (HS.out.keeps hk1 (off_nil _))
  have HT1 := Lib.hid (HT.out.keeps hk1 (by simp))
  have HY1 := Lib.hid hr2
  have HYL : Hid (ys.length = m2) := Lib.hid hr2.len
  have HYB : Hid (∀ j, 0 ≤ nth ys j ∧ nth ys j ≤ 255) := Lib.hid (nth_u8 (hd2.byte HBA.out (by have := HLB.out; omega)))
  have hml : m2 ≤ 16389 := by have h1 := hd2.len.1; have h2 := hr2.len; have := HLB.out; omega
  have hI : inflR ys (n : Int) = (bs, ys.length, 0) := hd2.infl HBA.out (by have := HLB.out; omega) (by have := HLB.out; omega) (by omega)
  have HI := Lib.hid hI
  have hIO := inflR_ok (bs := ys) (most := (n : Int)) (by rw [hI])
  rw [Int.toNat_natCast] at hIO
  have HF0 := Lib.hid hIO.2.2.1
  have HF1 : Hid ((inflF ys n).1 = bs) := Lib.hid (by have := hIO.2.2.2; rw [hI] at this; exact (congrArg (fun r => r.1) this).symm)
  have HCC := Lib.hid hcap
  clear hb2 hk1 hr2 hd2 hI hIO hcap HT HB HS e1 e1' e2 e2' hg2
  go_wp2_with fail
  refine (inflate_calls w1 (some ⟨g2, 0, none⟩) m2 c2 ys n HT1.out HY1.out (by simp) HYB.out (by omega)).mono ?_
  rintro _ w2 ⟨v2, rfl, ho2, hb2⟩
  rw [HI.out] at ho2 ⊢
  simp only [] at ho2 ⊢
  rw [HLB.out] at ho2
  rw [HYL.out]
  obtain ⟨A1, c1, rfl, hr1, -, -⟩ := own_ri ho2
  have hk2 := Keeps.of_below hb2 (S := [])
  have HK2 := Lib.hid (HK1.out.trans hk2)
  have HR2 := Lib.hid hr1
  have HB2 := Lib.hid (HB1.out.keeps hk2 (off_nil _))
  have HS2 := Lib.hid (HS1.out.keeps hk2 (off_nil _))
  have HT2 := Lib.hid (HT1.out.keeps hk2 (by simp))
  have HY2 := Lib.hid (HY1.out.keeps hk2 (off_nil _))
  clear ho2 hb2 hr1 hk2 HK1 HB1 HS1 HT1 HY1 HI
  go_wp2_with fail
  refine (inew_calls w2 n).mono ?_
  rintro _ w3 ⟨-, hgood⟩
  obtain ⟨s, rfl, hst, hs, hk3⟩ := hgood n rfl q1
  have HK3 := Lib.hid hk3
  have HST := Lib.hid hst
  have HSW : Hid (w2.heap.size ≤ s) := Lib.hid hs
  have HSG : Hid (gtop ≤ s) := Lib.hid (by have := HT2.out.size; omega)
  have HR3 := Lib.hid (HR2.out.keeps hk3 (off_nil _))
  have HB3 := Lib.hid (HB2.out.keeps hk3 (off_nil _))
  clear hgood hst hs hk3 HR2
  go_wp2_with fail
  refine (keepBytes_calls w3 A1 A n n c1 c bs bs HR3.out HB3.out (by omega) (by omega)).mono ?_
  rintro _ w4 ⟨rfl, hd4⟩
  rw [beq_self_eq_true]
  have hk4 := hd4.keeps (S := [])
  have HK4 := Lib.hid (HK3.out.trans hk4)
  have HST4 := Lib.hid (HST.out.keeps hk4 (by simp))
  clear hd4 hk4 HK3 HST HR3 HB3
  go_wp2_with fail
  go_loopw [12, 13, 14] (fun u av iv wr => ∃ (i at_ : Nat) (al : List Int) (fb : Option Nat), i ≤ sn + 1 ∧ iv = .int .i64 i ∧ av = .int .i64 at_ ∧ at_ ≤ m2 ∧ (i = sn + 1 → at_ = m2) ∧ al.length ≤ n ∧
    Hid (al = (inflF (ys.take at_) n).1) ∧ Hid (wr.ownsRow (s + 1) 5 1 u al.length (ints .u8 al)) ∧ Hid (Strm wr s n (ys.take at_) fb) ∧
    Hid (∀ x, fb = some x → w2.heap.size ≤ x) ∧ Hid (∀ x, u.ownBlock = some x → fb ≠ some x) ∧ Hid (Keeps [] w2 wr)) (fun _ _ iv _ => sn + 1 - (intOf iv).toNat)
  case atStart =>
    refine ⟨0, 0, [], none, by omega, rfl, rfl, by omega, fun h => by omega, by simp, Lib.hid ?_, Lib.hid (World.ownsRow_nil _ _ _ _), Lib.hid ?_, Lib.hid (fun x h => by cases h), Lib.hid (fun x h => by simp [Value.ownBlock] at h), HK4⟩
    · rw [List.take_zero, inflF_nil]
    · rw [List.take_zero]; exact HST4.out
  case round =>
    clear HST4 HK4
    obtain ⟨i, at_, al, fb, hi, rfl, rfl, hat, hlast, hal, HAL, HU, HST, HFB, HDJ, HK⟩ := hrel
    obtain ⟨uA, uc, rfl⟩ := own_formW HU.out
    have hlen : (ys.take at_).length = at_ := by rw [List.length_take, HYL.out]; omega
    have HLT := Lib.hid hlen
    clear hlen
    obtain ⟨wo, hwo⟩ : ∃ wo : World, wo = wr := ⟨_, rfl⟩
    by_cases hlt : i ≤ sn
    · have e3 : decide (i ≤ sn) = true := by simpa using hlt
      have e3' : decide ((i : Int) ≤ (sn : Int)) = true := by simp; omega
      go_upto_region 16 with (fail)
      go_cut [104] (fun v wc => ∃ p : Bool, v = .bool p ∧ (p = true → i < sn ∧ 0 ≤ nth sz i ∧ nth sz i ≤ (m2 : Int) - at_) ∧ Hid (Dr wo wc))
      case first =>
        have s0 : (m2 : Int) - (at_ : Int) = ((m2 - at_ : Nat) : Int) := by omega
        have sw : IntKind.i64.wrap ((m2 : Int) - (at_ : Int)) = (m2 : Int) - (at_ : Int) := IntWalk.i64_in _ (by omega)
        have HD0 : Hid (Dr wo wr) := Lib.hid (by rw [hwo]; exact ⟨0, rfl⟩)
        by_cases g1 : i < sn
        · have x1 : decide (i < sn) = true := by simpa using g1
          have x1' : decide ((i : Int) < (sn : Int)) = true := by simp; omega
          obtain ⟨b, o, rfl, hc⟩ := (HS2.out.keeps HK.out (off_nil _)).at g1
          generalize nth sz i = x at *
          by_cases g2 : 0 ≤ x
          · have x2 : decide (0 ≤ x) = true := by simpa using g2
            by_cases g3 : x ≤ (m2 : Int) - at_
            · have x3 : decide (x ≤ (m2 : Int) - (at_ : Int)) = true := by simpa using g3
              have G3 := Lib.hid (And.intro g1 (And.intro g2 g3))
              clear g2 g3 hwo s0
              go_wp2_with fail
              go_meet
              exact ⟨true, rfl, fun _ => G3.out, HD0⟩
            · have x3 : decide (x ≤ (m2 : Int) - (at_ : Int)) = false := by simpa using g3
              clear g2 g3 hwo s0
              go_wp2_with fail
              go_meet
              exact ⟨false, rfl, fun h => (by cases h), HD0⟩
          · have x2 : decide (0 ≤ x) = false := by simpa using g2
            clear g2 hwo s0
            go_wp2_with fail
            go_meet
            exact ⟨false, rfl, fun h => (by cases h), HD0⟩
        · have x1 : decide (i < sn) = false := by simpa using g1
          have x1' : decide ((i : Int) < (sn : Int)) = false := by simp; omega
          clear g1 hwo s0
          go_wp2_with fail
          go_meet
          exact ⟨false, rfl, fun h => (by cases h), HD0⟩
      case rest =>
        obtain ⟨p, rfl, hp, HD⟩ := hcut
        obtain ⟨wp_, hwp⟩ : ∃ wp_ : World, wp_ = wc := ⟨_, rfl⟩
        go_upto_if 104 with (fail)
        go_cut [15] (fun v wd => ∃ en : Nat, v = .int .i64 en ∧ at_ ≤ en ∧ en ≤ m2 ∧ (i = sn → en = m2) ∧ wd = wp_)
        case first =>
          cases p with
          | true =>
            obtain ⟨g1, g2, g3⟩ := hp rfl
            have hc0 := HK.out
            rw [← hwo] at hc0
            obtain ⟨b, o, rfl, hc⟩ := ((HS2.out.keeps hc0 (off_nil _)).keeps (HD.out.keeps (S := [])) (off_nil _)).at g1
            have HE : Hid (((at_ + (nth sz i).toNat : Nat) : Int) = (at_ : Int) + nth sz i) := Lib.hid (by omega)
            have HB9 := Lib.hid (show at_ + (nth sz i).toNat ≤ m2 by omega)
            generalize nth sz i = x at *
            have s1 : IntKind.i64.wrap ((at_ : Int) + x) = (at_ : Int) + x := IntWalk.i64_in _ (by omega)
            clear hc0 g2 g3
            go_wp2_with fail
            go_meet
            exact ⟨at_ + x.toNat, by rw [HE.out], by omega, HB9.out, fun h => by omega, hwp.symm⟩
          | false =>
            go_wp2_with fail
            go_meet
            exact ⟨m2, rfl, hat, by omega, fun _ => rfl, hwp.symm⟩
        case rest =>
          obtain ⟨en, rfl, b1, b2, hlc, rfl⟩ := hcut
          subst hwp
          subst hwo
          have hk3 := HD.out.keeps (S := [])
          have HK3 := Lib.hid (HK.out.trans hk3)
          have HU3 := Lib.hid (own_keeps HU.out hk3 (by simp))
          have HST3 := Lib.hid (HST.out.keeps hk3 (by simp))
          have hcat : ys.take at_ ++ (ys.take en).drop at_ = ys.take en := by
            have h1 : ys.take at_ = (ys.take en).take at_ := by rw [List.take_take, Nat.min_eq_left b1]
            rw [h1, List.take_append_drop]
          have hX := inflF_ext (ys.take at_) ((ys.take en).drop at_) n
          rw [hcat] at hX
          have HX := Lib.hid hX
          have HCAT := Lib.hid hcat
          have HPR := Lib.hid (HY2.out.keeps HK3.out (off_nil _) |>.mid HCC.out b1 b2)
          have HPN := Lib.hid (cut_nil_mid (A := some ⟨g2, 0, none⟩) HCC.out (by simp) b1 b2)
          have hsl := fun w => slice_mid8 w (some ⟨g2, 0, none⟩) m2 c2 at_ en at_ en rfl rfl b1 b2 HCC.out
          clear hk3 HK HU HST hcat hX HD hp
          go_wp2_with fail
          clear hsl
          refine (feed_calls wc s n (ys.take at_) fb (cutA (some ⟨g2, 0, none⟩) at_ c2) (en - at_) (c2 - at_) ((ys.take en).drop at_) HST3.out (HT2.out.keeps HK3.out (by simp)) HSG.out HPR.out HPN.out (fun j => ?_) (by rw [HLT.out]; omega)).mono ?_
          · have e : nth ((ys.take en).drop at_) j = if at_ + j < en then nth ys (at_ + j) else 0 := by
              simp only [nth, List.getD, List.getElem?_drop, List.getElem?_take]
              split <;> rfl
            rw [e]
            split
            · exact HYB.out _
            · omega
          rintro _ w5 ⟨v5, fb5, rfl, ho5, hst5, hk5, hfb5, hdj5⟩
          rw [HCAT.out] at ho5 hst5 ⊢
          have hal2 : (inflF (ys.take at_) n).2.2 = 0 ∨ (inflF (ys.take at_) n).2.2 = 55 → al = (inflF (ys.take at_) n).1 := fun _ => HAL.out
          have hps := parts_step HX.out hal2 hal (inflF_le (ys.take en) n)
          have hok := back_ok (r0 := inflF (ys.take at_) n) (back_err HF0.out en)
          have hps1 := hps.1 (back_err HF0.out en)
          obtain ⟨fo, hfo⟩ : ∃ fo, fo = feedR (inflF (ys.take at_) n) (inflF (ys.take en) n) := ⟨_, rfl⟩
          rw [← hfo] at hps hps1 hok ho5 ⊢
          obtain ⟨fo1, fo2⟩ := fo
          simp only [] at hps hps1 hok ho5 ⊢
          subst hok
          clear hfo
          have HPS := Lib.hid hps.2
          have HPS1 := Lib.hid hps1
          obtain ⟨A5, c5, rfl, hr5, -, hn5, -, -⟩ := own_full ho5
          have HR5 := Lib.hid hr5
          have HN5 := Lib.hid hn5
          have HST5 := Lib.hid hst5
          have HU5 := Lib.hid (own_keeps HU3.out hk5 (fun x hx hm => by
            rcases List.mem_cons.1 hm with h | h
            · have := own_lo HU3.out x hx; omega
            · exact HDJ.out x hx (Option.mem_toList.1 h)))
          have HK5 := Lib.hid (HK3.out.then hk5 (fun x hx => by
            rcases List.mem_cons.1 hx with h | h
            · subst h; exact .inr HSW.out
            · exact .inr (HFB.out x (Option.mem_toList.1 h))))
          have HFB5 : Hid (∀ x, fb5 = some x → w2.heap.size ≤ x) := Lib.hid (fun x hx => by
            rcases hfb5 x hx with h | h
            · exact HFB.out x h
            · exact Nat.le_trans HK3.out.size h)
          have HDJ5 : Hid (∀ x, (Value.slice uA al.length uc).ownBlock = some x → fb5 ≠ some x) := Lib.hid (fun x hx h => by
            rcases hfb5 x h with h2 | h2
            · exact HDJ.out x hx h2
            · have := own_hi HU3.out x hx; omega)
          have HS5 : Hid (s + 1 ≤ w5.heap.size) := Lib.hid hst5.lt
          have hfl : fo1.length ≤ 20000 := by have := hps.2; rw [List.length_append] at this; omega
          clear hps hps1 hal2 hr5 hn5 hst5 hk5 hfb5 hdj5 ho5 HU3 HK3 HST3 HX HPR HPN HFB HDJ HAL
          go_wp2_with (at_builtin; refine app_bytesB rfl (.tmp 122) (.tmp 123) rfl (s + 1) _ _ al rfl (by exact HU5.out) A5 fo1.length c5 fo1 rfl (by exact HR5.out) HN5.out ?c5 HS5.out ?_)
          case c5 => omega
          intro v6 w6 ho6 hg6 hw6
          have hk6 := grown_keepsI hg6
          have HK6 := Lib.hid (HK5.out.then hk6 (fun x hx => .inr (by have := own_lo HU5.out x (Option.mem_toList.1 hx); have := HSW.out; omega)))
          have HST6 := Lib.hid (show Strm w6 s n (ys.take en) fb5 from by
            obtain ⟨sv, st, su, q1, q2, q3, q4, q5, q6, q7⟩ := HST5.out
            refine ⟨sv, st, su, q1.keeps hk6 (fun hm => by have := own_lo HU5.out s (Option.mem_toList.1 hm); omega), own_keeps q2 hk6 (fun x hx hm => ?_), q3, q4, q5, q6, q7⟩
            exact HDJ5.out x (Option.mem_toList.1 hm) (by rw [← q7]; exact hx))
          have HDJ6 : Hid (∀ x, v6.ownBlock = some x → fb5 ≠ some x) := Lib.hid (fun x hx h => by
            rcases hw6 with e | e
            · rw [e] at hx; exact HDJ5.out x hx h
            · rw [e] at hx
              injection hx with hx
              obtain ⟨sv, st, su, q1, q2, q3, q4, q5, q6, q7⟩ := HST5.out
              have := own_hi q2 x (by rw [q7]; exact h)
              omega)
          have HU6 := Lib.hid (show w6.ownsRow (s + 1) 5 1 v6 (al ++ fo1).length (ints .u8 (al ++ fo1)) by rw [List.length_append]; exact ho6)
          obtain ⟨A6, c6, rfl⟩ := own_formW ho6
          clear ho6 hg6 hw6 hk6 HU5 HK5 HST5 HR5 HN5 HDJ5 HS5
          go_wp2_with fail
          go_roundw
          case rel => exact ⟨i + 1, en, al ++ fo1, fb5, by omega, by go_num, rfl, b2, fun h => hlc (by omega), HPS.out, HPS1, HU6, HST6, HFB5, HDJ6, HK6⟩
          case measure => simp [intOf]; omega
    · obtain rfl : i = sn + 1 := by omega
      obtain rfl : at_ = m2 := hlast rfl
      have e3 : decide (sn + 1 ≤ sn) = false := by simp
      have e3' : decide (((sn + 1 : Nat) : Int) ≤ (sn : Int)) = false := by simp; omega
      have hyn : ys.take at_ = ys := List.take_of_length_le (by rw [HYL.out]; omega)
      rw [hyn] at HAL HST
      obtain rfl : al = bs := HAL.out.trans HF1.out
      clear hlast hyn HAL
      obtain ⟨uA', uc', huv, hru, -, -⟩ := own_ri HU.out
      injection huv with hu1 hu2 hu3
      subst hu1
      subst hu3
      have HRU := Lib.hid hru
      clear hru hu2 hwo
      rw [HLB.out] at HRU
      rw [HLB.out]
      go_wp2_with fail
      refine (awake7_calls wr (HT2.out.keeps HK.out (by simp))).mono ?_
      rintro _ w5 ⟨rfl, hk5⟩
      have HK5 := Lib.hid (HK.out.trans hk5)
      have HST5 := Lib.hid (HST.out.keeps hk5 (by simp))
      have HRU5 := Lib.hid (HRU.out.keeps hk5 (off_nil _))
      clear hk5 HK HST HRU HU
      go_wp2_with fail
      refine (done_calls w5 s n ys fb HST5.out).mono ?_
      rintro _ w6 ⟨rfl, hd6⟩
      have e6 : decide ((inflF ys n).2.2 = 0) = true := by simpa using HF0.out
      rw [e6]
      have hk6 := hd6.keeps (S := [])
      have HK6 := Lib.hid (HK5.out.trans hk6)
      have HRU6 := Lib.hid (HRU5.out.keeps hk6 (off_nil _))
      clear hd6 hk6 HK5 HST5 HRU5 e6
      go_wp2_with fail
      refine (keepBytes_calls w6 _ A n n _ c al al HRU6.out (HB2.out.keeps HK6.out (off_nil _)) (by omega) (by omega)).mono ?_
      rintro _ w7 ⟨rfl, hd7⟩
      rw [beq_self_eq_true]
      have HK7 := Lib.hid (HK2.out.trans (HK6.out.trans (hd7.keeps (S := []))))
      clear hd7
      go_wp2_with fail
      go_ret
      exact ⟨rfl, HK7.out⟩
end Go.Proofs.YtkpabdjniiepkaaGreatDoor

/-
  What is deflated is inflated to itself, at once and in parts; of any bytes.
-/
set_option linter.unusedVariables false
set_option linter.unusedSimpArgs false
namespace Go.Proofs.YtkpabdjniiepkaaGreatDoor.deflateBack
open Go.ChangeShapes Go.WideShapes Go.ChangeAt Go.RowKit
set_option maxRecDepth 100000 in
theorem contract (H : Type) (enc : TypeId × Value → H) (W : World) (base : Nat) (args : Array Value) (ds gs : List (DataW H)) (before : List MemPlace)
    (hval : ∀ (j : Nat) t v, Tryz.f3.params[j]? = some t → args[j]? = some v → Value.okWide Tryz.prog W .any base t v)
    (hW : DataW.Whole enc Tryz.prog Tryz.f3.params.toList Rows.deflateBackSpec.vars false W args.toList ds gs before) (hL : laidMetH Tryz.prog Rows.deflateBackRow.laid W) :
    Calls Tryz.prog 3 args W fun e W' => ∃ v, e = .returned v ∧ Rows.deflateBackSpec.post enc Tryz.prog Tryz.f3 false true false false W args v W' := by
  have hT : Tabs W := tabs_of (laidMet.filter (fun x => x.1 == "haversack/lens.order" || x.1 == "haversack/lens.wide" || x.1 == "haversack/lens.from") hL)
  have hW' := hW
  obtain ⟨p, q, hA0, hV, rfl, hfz, hnd⟩ := hW
  have hA : DataW.TrodAll enc Tryz.prog W 0 (fun _ => true) true Tryz.f3.params.toList args.toList ds p := hA0
  rw [Tryz.params3] at hA hval
  obtain ⟨v0, vs0, d0, ds0, p0, q0, hargs, rfl, rfl, h0, r0⟩ := trodAll_cons hA
  obtain ⟨v1, vs1, d1, ds1, p1, q1, rfl, rfl, rfl, h1, r1⟩ := trodAll_cons r0
  obtain ⟨rfl, rfl, rfl⟩ := trodAll_nil r1
  obtain rfl : args = #[v0, v1] := by cases args; simp_all
  obtain ⟨rfl, rfl⟩ := trodVars_none hV
  obtain ⟨a0, len0, cap0, rfl⟩ := okWide_slice Tryz.underlying22 (hval 0 22 v0 rfl rfl)
  have k0 := h0
  have lt0 : ∀ x ∈ p0, x.block < W.heap.size := by obtain ⟨m, hm⟩ := k0; exact DataW.trod_lt m _ _ _ hm
  obtain ⟨z0, w0, m0, n0, y0⟩ := ri_came Tryz.underlying22 Tryz.underlying5 cellsU8 h0
  obtain ⟨a1, len1, cap1, rfl⟩ := okWide_slice Tryz.underlying23 (hval 1 23 v1 rfl rfl)
  have k1 := h1
  have lt1 : ∀ x ∈ p1, x.block < W.heap.size := by obtain ⟨m, hm⟩ := k1; exact DataW.trod_lt m _ _ _ hm
  obtain ⟨z1, w1, m1, n1, y1⟩ := ri_came Tryz.underlying23 Tryz.underlying3 cellsInt h1
  clear hA0
  refine (deflateBack_walk W a0 len0 cap0 z0 a1 len1 cap1 z1 hT w0 m0 n0 y0 (okWide_off Tryz.underlying22 (hval 0 22 (.slice a0 len0 cap0) rfl rfl)) w1 m1 n1 y1).mono fun e W' ⟨he, hk⟩ => ?_
  have bel := hk.below
  subst he
  exact ⟨_, rfl, _, _, _, [], _, [], hW', trodAll_mk1 (shut_bool Tryz.underlying4 _), (trodAll_cons_mk (Below.trod laidOut (by kernel_rfl) (of_decide_eq_true (by kernel_rfl)) k0 bel lt0) (trodAll_cons_mk (Below.trod laidOut (by kernel_rfl) (of_decide_eq_true (by kernel_rfl)) k1 bel lt1) trodAll_mk0)), rfl, bel.frame _, fun h => by cases h⟩
theorem reads (os : Os) {H : Type} (enc : TypeId × Value → H) : ∃ places, DataW.whole enc Tryz.prog ((laidWorld os).forCall (fun _ _ => 0) ⟨#[], #[.slice none 0 0, .slice none 0 0], []⟩).memory Tryz.f3.params.toList Rows.deflateBackSpec.vars false #[Value.slice none 0 0, .slice none 0 0].toList 8 = some ([.nil, .nil], [], places) :=
  ⟨[], by kernel_rfl⟩
set_option maxRecDepth 100000 in
theorem lifted (os : Os) (started : os.Started) (H : Type) (enc : TypeId × Value → H) (F : Stop.Interp) :
    ReturnsInHanded {} Tryz.checked os 3 .any ((OpenSpec.ofChange Rows.deflateBackSpec).preRow enc Tryz.prog Tryz.f3 Rows.deflateBackRow.domain false Rows.deflateBackRow.laid) (((OpenSpec.ofChange Rows.deflateBackSpec).at F).post enc Tryz.prog Tryz.f3 false true false false) := by
  obtain ⟨places, hx⟩ := reads os enc
  refine returnsInHanded_of_row (C := Tryz.checked) (s := OpenSpec.ofChange Rows.deflateBackSpec) own started (by kernel_rfl) Tryz.func3
    (witness_row_at (enc := enc) (C := Tryz.checked) false (laidWorld os) #[.slice none 0 0, .slice none 0 0] rfl (by kernel_rfl) (by kernel_rfl) (by kernel_rfl)
      (OpenSpec.preRow_of_cond 8 hx (by kernel_rfl) (fun k hk => by cases hk) (by kernel_rfl) (laid_met os _))) ?_
  intro W base args ds gs before hval hW _ _ _ hL _ _
  exact contract H enc W base args ds gs before hval hW hL
theorem said : Rows.DeflateBackSaid :=
  OpenClaim.holds_of_cond 3 Tryz.f3 rfl rfl rfl rfl rfl rfl rfl ⟨rfl, rfl, rfl, rfl, rfl⟩ rfl rfl rfl rfl rfl (by kernel_rfl) Tryz.func3 (by kernel_rfl)
    (of_decide_eq_true (by kernel_rfl)) (by unfold Func.isWrapper; first | (rw [if_pos (by decide +kernel)]; kernel_rfl) | (rw [if_neg (by decide +kernel)]; exact ⟨rfl, rfl⟩))
    (fun os started H enc _ F => by rw [OpenClaim.pre_eq_preRow]; exact lifted os started H enc F)
theorem plain (f : FuncId) (fn : Func) (hf : Tryz.pinned.checked.prog.funcNamed "haversack/haversacklaw07.DeflateBack" = some f) (hfn : Tryz.pinned.checked.prog.funcs[f]? = some fn) :
    false = Tryz.pinned.checked.prog.looks [] ∧ ∀ (j : Nat) t, fn.params[j]? = some t → Tryz.pinned.checked.prog.wantsStandIn t = false := by
  obtain rfl : f = 3 := Option.some.inj ((show Tryz.prog.funcNamed "haversack/haversacklaw07.DeflateBack" = some 3 by kernel_rfl).symm.trans hf) |>.symm
  obtain rfl : fn = Tryz.f3 := (Option.some.inj (Tryz.func3.symm.trans hfn)).symm
  refine ⟨by kernel_rfl, fun j t ht => ?_⟩
  rw [Tryz.params3] at ht
  have hm := Array.mem_of_getElem? ht
  have hm2 : t = 22 ∨ t = 23 := by simpa using hm
  rcases hm2 with rfl | rfl
  · exact (show Tryz.prog.wantsStandIn 22 = false by kernel_rfl)
  · exact (show Tryz.prog.wantsStandIn 23 = false by kernel_rfl)
/-- The card. -/
theorem card : Rows.DeflateBackCardSaid :=
  Claim7.holds_tied_plain_at .later [] _ _ _ _ said (fun _ h => by cases h) (by kernel_rfl) (fun _ h => by cases h) deflateBack_row_tie rfl ⟨rfl, rfl⟩ (by kernel_rfl) rfl plain (by kernel_rfl)
#print axioms card
end Go.Proofs.YtkpabdjniiepkaaGreatDoor.deflateBack
