import Derived.Test.YtcblibefmclloaaMLeast2
import Derived.Test.YtcblibefmclloaaRefWith
import Derived.StillTailTactics
import Derived.RegionTactic
import Derived.BigQuiet
import Derived.BigRegion
set_option linter.unusedVariables false
set_option linter.unusedSimpArgs false
namespace Go.Proofs.Ytcblibefmclloaa
open Go.RowKit
/-- A row of numbers of one's own, its value spelt out. -/
def RowI (w : World) (base : Nat) (A : Option Addr) (n c : Nat) (xs : List Int) : Prop :=
  w.ownsRow base 3 1 (.slice A n c) n (ints .i64 xs) ∧ RI .i64 w A n xs ∧ (A = none → n = 0 ∧ c = 0) ∧ (∀ ad, A = some ad → ∃ b o, ad = ⟨b, o, none⟩) ∧ n ≤ c
theorem rowI_of {w : World} {base : Nat} {v : Value} {n : Nat} {xs : List Int} (h : w.ownsRow base 3 1 v n (ints .i64 xs)) : ∃ A c, v = .slice A n c ∧ RowI w base A n c xs := by
  obtain ⟨A, c, rfl, h1, h2, h3, h4⟩ := own_arg h
  exact ⟨A, c, rfl, h, h1, h2, h3, h4⟩
theorem RowI.keeps {w w' : World} {base : Nat} {A : Option Addr} {n c : Nat} {xs : List Int} (h : RowI w base A n c xs) (hk : Keeps [] w w') : RowI w' base A n c xs :=
  ⟨own_keeps h.1 hk (by simp), h.2.1.keeps hk (off_nil _), h.2.2⟩
theorem RowI.len {w : World} {base : Nat} {A : Option Addr} {n c : Nat} {xs : List Int} (h : RowI w base A n c xs) : xs.length = n := h.2.1.len
theorem rowI_nil (w : World) (base : Nat) : RowI w base none 0 0 [] := ⟨World.ownsRow_nil _ _ _ _, ⟨rfl, by omega, by simp⟩, fun _ => ⟨rfl, rfl⟩, by simp, Nat.le_refl _⟩
theorem with_row (w : World) (base : Nat) (A : Option Addr) (n c : Nat) (l : List Int) (x : Int) (h : RowI w base A n c l) (hn : n ≤ 1000000) (b0 : Nat) (hb : b0 ≤ w.heap.size) :
    Calls Try.prog 40 #[.slice A n c, .int .i64 x] w fun e w' => ∃ A' c', e = .returned (.slice A' (n + 1) c') ∧ RowI w' b0 A' (n + 1) c' (withF x l) ∧ Keeps [] w w' := by
  refine (with_calls w A n c l x h.2.1 h.2.2.1 h.2.2.2.1 h.2.2.2.2 hn).mono ?_
  rintro e w' ⟨v, rfl, ho, hbe⟩
  obtain ⟨A', c', rfl, hr⟩ := rowI_of (ho.mono hb)
  exact ⟨A', c', rfl, hr, Keeps.of_below hbe⟩
set_option maxRecDepth 100000 in
set_option maxHeartbeats 4000000 in
theorem least_calls (w : World) (A : Option Addr) (n c : Nat) (cs : List Int) (t : Nat) (hl : RI .i64 w A n cs) (hn : n ≤ 288) (ht : t ≤ 15) (hbad : cs.any badCount = false) :
    Calls Try.prog 18 #[.slice A n c, .int .i64 t] w fun e w' => e = .returned (.int .i64 (leastF cs t)) ∧ Keeps [] w w' := by
  have HL := Lib.hid hl
  have HLL := Lib.hid hl.len
  have HBD : Hid (∀ s, s ≤ 15 → (leastLv (leavesS cs) s).length ≤ 576 ∧ (∀ x ∈ leastLv (leavesS cs) s, 0 ≤ x ∧ x ≤ 100000000000000000) ∧ (leastLv (leavesS cs) s).sum ≤ 4320000000000000) := Lib.hid (leastLv_bd hbad (by rw [hl.len]; exact hn))
  clear hl hbad
  go_enter Try.func18, Try.ntmps18
  go_wp2_with fail
  go_loopw [5, 6] (fun lv iv wr => ∃ (i m : Nat) (A1 : Option Addr) (c1 : Nat), i ≤ n ∧ m ≤ i ∧ iv = .int .i64 i ∧ lv = .slice A1 m c1 ∧ Hid (RowI wr w.heap.size A1 m c1 (sortW id (posL (cs.take i)) [])) ∧ Hid (Keeps [] w wr)) (fun _ iv _ => n - (intOf iv).toNat)
  case atStart => exact ⟨0, 0, none, 0, by omega, by omega, rfl, rfl, Lib.hid (rowI_nil _ _), Lib.hid (Keeps.refl _ _)⟩
  case round =>
    obtain ⟨i, m, A1, c1, hi, hmi, rfl, rfl, HR, HK⟩ := hrel
    by_cases hlt : i < n
    · have e0 : decide (i < n) = true := by simpa using hlt
      obtain ⟨b, o, ha, hc⟩ := (HL.out.keeps HK.out (off_nil _)).at hlt
      subst ha
      have HS := Lib.hid (leaves_take cs i (by have := HLL.out; omega))
      generalize nth cs i = x at *
      by_cases h0 : 0 < x
      · have e1 : decide (0 < x) = true := by simpa using h0
        rw [if_pos h0] at HS
        go_wp2_with fail
        refine (with_row _ _ _ _ _ _ x HR.out (by omega) w.heap.size HK.out.size).mono ?_
        rintro _ w1 ⟨A2, c2, rfl, hr2, hk2⟩
        have HR2 : Hid (RowI w1 w.heap.size A2 (m + 1) c2 (sortW id (posL (cs.take (i + 1))) [])) := Lib.hid (by rw [HS.out]; exact hr2)
        have HK2 := Lib.hid (HK.out.trans hk2)
        clear hr2 hk2 HR HK HS
        go_wp2_with fail
        go_roundw
        case rel => exact ⟨i + 1, m + 1, A2, c2, by omega, by omega, by go_num, rfl, HR2, HK2⟩
        case measure => simp [intOf]; omega
      · have e1 : decide (0 < x) = false := by simpa using h0
        rw [if_neg h0] at HS
        have HR2 : Hid (RowI wr w.heap.size A1 m c1 (sortW id (posL (cs.take (i + 1))) [])) := Lib.hid (by rw [HS.out]; exact HR.out)
        clear HR HS
        go_wp2_with fail
        go_roundw
        case rel => exact ⟨i + 1, m, A1, c1, by omega, by omega, by go_num, rfl, HR2, HK⟩
        case measure => simp [intOf]; omega
    · obtain rfl : i = n := by omega
      have e0 : decide (i < i) = false := by simp
      have HLV : Hid (RowI wr w.heap.size A1 m c1 (leavesS cs)) := Lib.hid (by
        have := HR.out
        rwa [List.take_of_length_le (by have := HLL.out; omega)] at this)
      clear HR HL
      obtain ⟨wl, hwl⟩ : ∃ wl : World, wl = wr := ⟨_, rfl⟩
      rw [← hwl] at HLV HK ⊢
      clear hwl
      go_wp2_with fail
      go_loopw [7, 8] (fun lv tv wr => ∃ (s k : Nat) (A2 : Option Addr) (c2 : Nat), s ≤ t ∧ k ≤ 576 ∧ tv = .int .i64 s ∧ lv = .slice A2 k c2 ∧ Hid (RowI wr w.heap.size A2 k c2 (leastLv (leavesS cs) s)) ∧ Hid (RowI wr w.heap.size A1 m c1 (leavesS cs)) ∧ Hid (Keeps [] w wr)) (fun _ tv _ => t - (intOf tv).toNat)
      case atStart => exact ⟨0, 0, none, 0, by omega, by omega, rfl, rfl, Lib.hid (rowI_nil _ _), HLV, HK⟩
      case round =>
        clear HLV HK
        obtain ⟨s, k, A2, c2, hs, hk576, rfl, rfl, HR, HLV, HK⟩ := hrel
        by_cases hlts : s < t
        · have e1 : decide (s < t) = true := by simpa using hlts
          have hsz := HK.out.size
          have HBS := Lib.hid (HBD.out s (by omega))
          have HBT := Lib.hid (HBD.out (s + 1) (by omega))
          obtain ⟨X, hX⟩ : ∃ X, X = leastLv (leavesS cs) s := ⟨_, rfl⟩
          have HNX : Hid (leastLv (leavesS cs) (s + 1) = sortW id (pairSum X) (leavesS cs)) := Lib.hid (by rw [hX]; rfl)
          rw [← hX] at HR HBS
          clear hX
          go_wp2_with (at_builtin; refine app_ints rfl (.tmp 35) (.tmp 36) rfl w.heap.size _ _ [] rfl (World.ownsRow_nil _ _ _ _) A1 m c1 (leavesS cs) rfl HLV.out.2.1 HLV.out.2.2.1 HLV.out.2.2.2.1 (by omega) hsz ?_)
          intro v1 w1 ho1 hg1
          obtain ⟨A3, c3, rfl, hr3⟩ := rowI_of ho1
          have hk1 := (Keeps.refl [] wr).grown hg1 (fun k hk => by simp [Value.ownBlock] at hk)
          have HR3 : Hid (RowI w1 w.heap.size A3 (m + 0) c3 (sortW id ((pairSum X).take 0) (leavesS cs))) := Lib.hid hr3
          have HR1 := Lib.hid (HR.out.keeps hk1)
          have HLV1 := Lib.hid (HLV.out.keeps hk1)
          have HK1 := Lib.hid (HK.out.trans hk1)
          have HXL := Lib.hid HR.out.len
          clear ho1 hg1 hr3 hk1 HR HLV HK hsz
          go_wp2_with fail
          go_loopw [9, 10] (fun nv iv wx => ∃ (j I : Nat) (A4 : Option Addr) (c4 : Nat), Hid (I = 2 * j) ∧ I ≤ k + 1 ∧ j ≤ 288 ∧ iv = .int .i64 I ∧ nv = .slice A4 (m + j) c4 ∧ Hid (RowI wx w.heap.size A4 (m + j) c4 (sortW id ((pairSum X).take j) (leavesS cs))) ∧ Hid (RowI wx w.heap.size A2 k c2 X) ∧ Hid (RowI wx w.heap.size A1 m c1 (leavesS cs)) ∧ Hid (Keeps [] w wx)) (fun _ iv _ => k + 2 - (intOf iv).toNat)
          case atStart => exact ⟨0, 0, A3, c3, Lib.hid rfl, by omega, by omega, rfl, rfl, HR3, HR1, HLV1, HK1⟩
          case round =>
            clear HR3 HR1 HLV1 HK1
            obtain ⟨j, I, A4, c4, HI, hIk, hj, rfl, rfl, HR3, HR1, HLV1, HK1⟩ := hrel
            by_cases hltk : I + 1 < k
            · have e2 : decide ((I : Int) + 1 < (k : Int)) = true := by simp; omega
              have HST := Lib.hid (nextLv_step X (leavesS cs) j (by rw [HXL.out]; have := HI.out; omega))
              rw [← HI.out] at HST
              obtain ⟨xb, xo, hxa, hx1⟩ := HR1.out.2.1.at (j := I) (by omega)
              subst hxa
              have hx2 := HR1.out.2.1.cell xb xo rfl (I + 1) (by omega)
              obtain ⟨a0, a1⟩ := HBS.out.2.1 (nth X I) (by rw [nth_lt (by rw [HXL.out]; omega)]; exact List.getElem_mem _)
              obtain ⟨b0, b1⟩ := HBS.out.2.1 (nth X (I + 1)) (by rw [nth_lt (by rw [HXL.out]; omega)]; exact List.getElem_mem _)
              generalize nth X I = p at *
              generalize nth X (I + 1) = r at *
              have s1 : ((I : Int) + 1).toNat = I + 1 := by omega
              have s2 : (0 : Int) ≤ (I : Int) + 1 := by omega
              have s3 : (I : Int) + 1 < (k : Int) := by omega
              have s4 : (I : Int) < (k : Int) := by omega
              have s5 : IntKind.i64.wrap ((I : Int) + 1) = (I : Int) + 1 := IntWalk.i64_in _ (by omega)
              have s7 : IntKind.i64.wrap (I : Int) = (I : Int) := IntWalk.i64_in _ (by omega)
              have s8 : (0 : Int) ≤ (I : Int) := by omega
              have s6 : IntKind.i64.wrap (p + r) = p + r := IntWalk.i64_in _ (by omega)
              go_wp2_with fail
              go_still_tail 11, (by kernel_rfl)
              change wpList _ _ _ _ _ wr.drew
              have hdr := (Keeps.refl [] wr).drew
              have HRd := Lib.hid (HR3.out.keeps hdr)
              have HKd := Lib.hid (HK1.out.trans hdr)
              have HXd := Lib.hid (HR1.out.keeps hdr)
              have HVd := Lib.hid (HLV1.out.keeps hdr)
              clear hdr HR3 HK1 HR1 HLV1 hx1 hx2
              go_wp2_with fail
              refine (with_row _ _ _ _ _ _ (p + r) HRd.out (by omega) w.heap.size HKd.out.size).mono ?_
              rintro _ w2 ⟨A5, c5, rfl, hr5, hk5⟩
              have HR5 : Hid (RowI w2 w.heap.size A5 (m + (j + 1)) c5 (sortW id ((pairSum X).take (j + 1)) (leavesS cs))) := Lib.hid (by rw [HST.out]; exact hr5)
              have HX5 := Lib.hid (HXd.out.keeps hk5)
              have HV5 := Lib.hid (HVd.out.keeps hk5)
              have HK5 := Lib.hid (HKd.out.trans hk5)
              clear hr5 hk5 HRd HKd HXd HVd HST
              go_wp2_with fail
              go_roundw
              case rel => exact ⟨j + 1, I + 2, A5, c5, Lib.hid (by have := HI.out; omega), by omega, by have := HI.out; omega, by go_num, rfl, HR5, HX5, HV5, HK5⟩
              case measure => simp [intOf]; omega
            · have e2 : decide ((I : Int) + 1 < (k : Int)) = false := by simp; omega
              have HRN : Hid (RowI wr w.heap.size A4 (m + j) c4 (leastLv (leavesS cs) (s + 1))) := Lib.hid (by
                rw [HNX.out, ← pairSum_done X j (by rw [HXL.out]; have := HI.out; omega)]; exact HR3.out)
              have hmj : m + j ≤ 576 := by have := HBT.out.1; rw [HRN.out.len] at this; exact this
              clear HR3 HR1 HNX HBS HBT
              go_wp2_with fail
              go_roundw
              case rel => exact ⟨s + 1, m + j, A4, c4, by omega, hmj, by go_num, rfl, HRN, HLV1, HK1⟩
              case measure => simp [intOf]; omega
        · obtain rfl : s = t := by omega
          have e1 : decide (s < s) = false := by simp
          have HBS := Lib.hid (HBD.out s ht)
          have HLE : Hid (leastF cs s = ((leastLv (leavesS cs) s).take (2 * m - 2)).sum) := Lib.hid (by unfold leastF; rw [HLV.out.len])
          obtain ⟨X, hX⟩ : ∃ X, X = leastLv (leavesS cs) s := ⟨_, rfl⟩
          rw [← hX] at HBS HLE HR
          have HXL := Lib.hid HR.out.len
          clear HBD HLV hX
          obtain ⟨wm, hwm⟩ : ∃ wm : World, wm = wr := ⟨_, rfl⟩
          rw [← hwm] at HR HK ⊢
          clear hwm
          go_wp2_with fail
          go_loopw [11, 12] (fun sv qv wr => ∃ q : Nat, q ≤ k ∧ q ≤ 2 * m - 2 ∧ qv = .int .i64 q ∧ sv = .int .i64 ((X.take q).sum) ∧ Hid (Keeps [] wm wr)) (fun _ qv _ => k - (intOf qv).toNat)
          case atStart => exact ⟨0, by omega, by omega, rfl, by simp, Lib.hid (Keeps.refl _ _)⟩
          case round =>
            obtain ⟨q, hqk, hqm, rfl, rfl, HKq⟩ := hrel
            obtain ⟨z0, z1⟩ := sum_take_bd (fun x hx => (HBS.out.2.1 x hx).1) q (X := X)
            have z2 := HBS.out.2.2
            by_cases h1 : q < 2 * m - 2
            · have e2 : decide ((q : Int) < 2 * (m : Int) - 2) = true := by simp; omega
              by_cases h2 : q < k
              · have e3 : decide ((q : Int) < (k : Int)) = true := by simp; omega
                obtain ⟨xb, xo, hxa, hx1⟩ := (HR.out.2.1.keeps HKq.out (off_nil _)).at h2
                subst hxa
                have HSUM := Lib.hid (take_mono X q (by rw [HXL.out]; exact h2))
                obtain ⟨a0, a1⟩ := HBS.out.2.1 (nth X q) (by rw [nth_lt (by rw [HXL.out]; omega)]; exact List.getElem_mem _)
                generalize (X.take q).sum = Z at *
                generalize nth X q = x at *
                go_wp2_with fail
                go_roundw
                case rel => exact ⟨q + 1, by omega, by omega, by go_num, by rw [HSUM.out], HKq⟩
                case measure => simp [intOf]; omega
              · have e3 : decide ((q : Int) < (k : Int)) = false := by simp; omega
                have HEND : Hid ((X.take q).sum = leastF cs s) := Lib.hid (by
                  rw [HLE.out, List.take_of_length_le (by rw [HXL.out]; omega), List.take_of_length_le (by rw [HXL.out]; omega)])
                go_wp2_with fail
                go_ret
                exact ⟨by rw [← HEND.out]; rfl, HK.out.trans HKq.out⟩
            · have e2 : decide ((q : Int) < 2 * (m : Int) - 2) = false := by simp; omega
              have HEND : Hid ((X.take q).sum = leastF cs s) := Lib.hid (by
                rw [HLE.out, show q = 2 * m - 2 by omega])
              go_wp2_with fail
              go_ret
              exact ⟨by rw [← HEND.out]; rfl, HK.out.trans HKq.out⟩
end Go.Proofs.Ytcblibefmclloaa
