import Derived.Test.YtcblibefmclloaaLawNil
import Derived.Test.YtcblibefmclloaaBack3
import Derived.Test.YtcblibefmclloaaRefNext
set_option linter.unusedVariables false
set_option linter.unusedSimpArgs false
namespace Go.Proofs.Ytcblibefmclloaa
open Go.RowKit
theorem rows_short {l : List Int} (hok : l.all okLen = true) (j : Nat) : (rth (rowsF l) j).length ≤ 15 := by
  by_cases hj : j < l.length
  · by_cases h0 : 0 < (rth (rowsF l) j).length
    · obtain ⟨m, h1, h2, _, h4⟩ := row_len hok j hj h0
      rw [h4, msbF_len]; exact h2
    · omega
  · have : rth (rowsF l) j = [] := by
      unfold rth; simp [List.getD, List.getElem?_eq_none (show (rowsF l).length ≤ j by rw [rowsF_len]; omega)]
    rw [this]; simp
set_option maxRecDepth 100000 in
set_option maxHeartbeats 2000000 in
theorem huffNexts_walk (w : World) (A : Option Addr) (n c : Nat) (l : List Int) (A2 : Option Addr) (m c2 : Nat) (bs : List Int) (hl : RI .i64 w A n l) (hm : n ≤ maxLen) (hnil : A = none → n = 0 ∧ c = 0) (hwf : ∀ x ∈ l, (Lit.int .i64 x).wf = true)
    (hb : RI .u8 w A2 m bs) (hm2 : m ≤ maxLen) (hnil2 : A2 = none → m = 0 ∧ c2 = 0) (hwf2 : ∀ x ∈ bs, (Lit.int .u8 x).wf = true) :
    Calls Try.prog 6 #[.slice A n c, .slice A2 m c2] w fun e w' => e = .returned (.bool true) ∧ Keeps [] w w' := by
  have HL := Lib.hid hl
  have HLL := Lib.hid hl.len
  have HB := Lib.hid hb
  have HBL := Lib.hid hb.len
  have HN2 := Lib.hid hnil2
  have HY := Lib.hid (byte_wf hwf2)
  clear hl hnil hwf hb hnil2 hwf2
  go_enter Try.func6, Try.ntmps6
  by_cases hbig : 5000 < n
  · have e1 : decide (5000 < n) = true := by simpa using hbig
    have e2 : decide ((5000 : Int) < (n : Int)) = true := by simp; omega
    go_wp2_with fail
    go_ret
    exact ⟨rfl, Keeps.refl _ _⟩
  have e1 : decide (5000 < n) = false := by simpa using hbig
  have e2 : decide ((5000 : Int) < (n : Int)) = false := by simp; omega
  by_cases hbig2 : 16384 < m
  · have e3 : decide (16384 < m) = true := by simpa using hbig2
    have e4 : decide ((16384 : Int) < (m : Int)) = true := by simp; omega
    go_wp2_with fail
    go_ret
    exact ⟨rfl, Keeps.refl _ _⟩
  have e3 : decide (16384 < m) = false := by simpa using hbig2
  have e4 : decide ((16384 : Int) < (m : Int)) = false := by simp; omega
  have hn2 : n ≤ 1048576 := by omega
  have hn3 : n ≤ 140737488355328 := by omega
  go_wp2_with fail
  refine (lent3_calls _ _ _ _ l HL.out hn2).mono ?_
  rintro _ w1 ⟨gx, rfl, hB1, hg1, hk1⟩
  have HL1 := Lib.hid (HL.out.keeps hk1 (off_nil _))
  have HB1 := Lib.hid hB1
  have K1 := Lib.hid hk1
  have HGX := Lib.hid hg1
  clear hB1 hk1 hg1
  go_wp2_with fail
  refine (new_calls _ _ _ _ l (by have := HB1.out.ri; rwa [HLL.out] at this) hn3).mono ?_
  rintro e w2 ⟨hb2, hmade⟩
  have hk2 := Keeps.of_below hb2 (S := [])
  have HL2 := Lib.hid (HL1.out.keeps hk2 (off_nil _))
  have HB2 := Lib.hid (HB1.out.keeps hk2 (by simp))
  have K2 := Lib.hid (K1.out.trans hk2)
  have HLT : Hid (gx < w1.heap.size) := Lib.hid HB1.out.lt
  clear hb2 hk2 HL1 HB1 K1
  by_cases hc : checkF l = 0
  · rw [if_pos hc] at hmade
    obtain ⟨g, rfl, hd, hg⟩ := hmade
    have HC := Lib.hid hc
    have HD := Lib.hid hd
    have HG : Hid (gx < g) := Lib.hid (by have := HLT.out; omega)
    have hok := check_ok hc
    have hn288 : n ≤ 288 := by rw [← HLL.out]; exact hok.1
    have HOK := Lib.hid hok.2
    clear hd hg hok HLT
    go_wp2_with fail
    refine (refCheck_calls _ _ _ _ l HL2.out hn3).mono ?_
    rintro _ w3 ⟨rfl, hd3⟩
    have hk3 := hd3.keeps (S := [])
    have HL3 := Lib.hid (HL2.out.keeps hk3 (off_nil _))
    have HB3 := Lib.hid (HB2.out.keeps hk3 (by simp))
    have HD3 := Lib.hid (HD.out.keeps hk3 (by simp))
    have K3 := Lib.hid (K2.out.trans hk3)
    clear hd3 hk3 HL2 HB2 HD K2
    rw [hc]
    go_wp2_with fail
    refine (back3_calls _ _ _ _ _ l HL3.out HB3.out hn2).mono ?_
    rintro _ w4 ⟨rfl, hd4⟩
    have hk4 := hd4.keeps (S := [])
    have HB4 : Hid (∃ cs, Blk w4 gx 3 cs ∧ cs.length = n + 1) := Lib.hid ⟨_, HB3.out.keeps hk4 (by simp), by simp [ints]; exact HLL.out⟩
    have HD4 := Lib.hid (HD3.out.keeps hk4 (by simp))
    have K4 := Lib.hid (K3.out.trans hk4)
    clear hd4 hk4 HL3 HB3 HD3 K3 hc
    go_wp2_with fail
    go_loopw [9] (fun iv wr => ∃ i : Nat, i ≤ n ∧ iv = .int .i64 i ∧ Hid (∃ cs, Blk wr gx 3 cs ∧ cs.length = n + 1) ∧ Hid (Dec wr g l) ∧ Hid (Keeps [] w wr)) (fun iv _ => n - (intOf iv).toNat)
    case atStart => exact ⟨0, by omega, rfl, HB4, HD4, K4⟩
    case round =>
      clear HB4 HD4 K4
      obtain ⟨i, hi, rfl, HB4, HD4, K4⟩ := hrel
      by_cases hlt : i < n
      · have e0 : decide (i < n) = true := by simpa using hlt
        obtain ⟨cs, hb, hcl⟩ := HB4.out
        have h2 := hb.frozen i
        obtain ⟨v0, hv0⟩ : ∃ v, cs[i]? = some v := ⟨_, List.getElem?_eq_getElem (by omega)⟩
        have h1 := hb.cell i
        rw [hv0] at h1
        have HS : Hid (∃ cs', Blk (wr.setCell ⟨gx, i, none⟩ (.int .i64 3)) gx 3 cs' ∧ cs'.length = n + 1) := Lib.hid ⟨_, hb.set i _, by rw [List.length_set]; exact hcl⟩
        have K6 := Lib.hid (K4.out.setCell (p := ⟨gx, i, none⟩) (Or.inr HGX.out) (.int .i64 3))
        have HD6 := Lib.hid (HD4.out.keeps ((Keeps.refl [gx] wr).setCell (p := ⟨gx, i, none⟩) (Or.inl (by simp)) (.int .i64 3)) (fun x hx => by rw [List.mem_singleton.1 hx]; exact Or.inl HG.out))
        clear hb HB4 K4 HD4 hv0 hcl
        go_wp2_with fail
        go_roundw
        case rel => exact ⟨i + 1, by omega, by go_num, HS, HD6, K6⟩
        case measure => simp [intOf]; omega
      · obtain rfl : i = n := by omega
        have e0 : decide (i < i) = false := by simp
        clear HB4 HGX HG
        have HT := Lib.hid HD4.out.top
        have HL4 := Lib.hid (HL.out.keeps K4.out (off_nil _))
        have HB4 := Lib.hid (HB.out.keeps K4.out (off_nil _))
        clear HD4 HL HB
        obtain ⟨top, htop⟩ : ∃ top, top = wr.heap.size := ⟨_, rfl⟩
        rw [← htop] at HT
        have HTOP : Hid (top ≤ wr.heap.size) := Lib.hid (by omega)
        have HTW : Hid (w.heap.size ≤ top) := Lib.hid (by rw [htop]; exact K4.out.size)
        clear htop
        go_wp2_with fail
        refine (rows_calls _ _ _ _ l HL4.out hn288 HOK.out).mono ?_
        rintro _ w5 ⟨rfl, hrb, hb5⟩
        have hk5 := Keeps.of_below hb5 (S := [])
        have HT5 := Lib.hid (HT.out.keeps hk5 (by simp))
        have HB5 := Lib.hid (HB4.out.keeps hk5 (off_nil _))
        have K5 := Lib.hid (K4.out.trans hk5)
        have HRB5 := Lib.hid hrb
        have HS5 : Hid (top ≤ w5.heap.size) := Lib.hid (Nat.le_trans HTOP.out hk5.size)
        clear hrb hb5 hk5 HT HL4 HB4 K4 HTOP
        obtain ⟨gr0, hgr0⟩ : ∃ x, x = wr.heap.size := ⟨_, rfl⟩
        rw [← hgr0] at HRB5 ⊢
        clear hgr0
        go_wp2_with fail
        refine (of_calls _ _ _ _ bs HB5.out HY.out (by omega)).mono ?_
        rintro _ w6 ⟨v6, rfl, ho6, hb6⟩
        have hk6 := Keeps.of_below hb6 (S := [])
        have HT6 := Lib.hid (HT5.out.keeps hk6 (by simp))
        have HB6 := Lib.hid (HB5.out.keeps hk6 (off_nil _))
        have K6 := Lib.hid (K5.out.trans hk6)
        have HRB6 := Lib.hid (HRB5.out.below hb6)
        have HS6 : Hid (top ≤ w6.heap.size) := Lib.hid (Nat.le_trans HS5.out hk6.size)
        obtain ⟨AO, co, rfl, hro, _, hlo⟩ := own_ri ho6
        have HRO6 := Lib.hid hro
        have HLO : Hid (∀ a, AO = some a → a.block < w6.heap.size) := Lib.hid (fun a ha => (hlo a ha).2.1)
        clear hb6 hk6 ho6 HT5 HB5 K5 HRB5 HS5 hro hlo
        go_wp2_with fail
        refine (newReader_calls _ _ _ _ bs HB6.out HN2.out HY.out (by omega)).mono ?_
        rintro e w7 ⟨gr, A7, c7, rfl, hr7, hg7, ha7, hb7⟩
        have hk7 := Keeps.of_below hb7 (S := [])
        have HT7 := Lib.hid (HT6.out.keeps hk7 (by simp))
        have K7 := Lib.hid (K6.out.trans hk7)
        have HRB7 := Lib.hid hk7
        have HG6 := Lib.hid hg7
        have HRO7 := Lib.hid (HRO6.out.keeps hk7 (off_nil _))
        have HGR : Hid (top ≤ gr) := Lib.hid (Nat.le_trans HS6.out hg7)
        have HOFF : Hid (Off [gr] AO) := Lib.hid (fun a ha hm => by have := HLO.out a ha; rw [List.mem_singleton.1 hm] at this; omega)
        have HRBl : Hid (gr0 < gr) := Lib.hid (Nat.lt_of_lt_of_le HRB6.out.lt hg7)
        have HR7 := Lib.hid hr7
        have HW7 : Hid (w.heap.size ≤ gr) := Lib.hid (Nat.le_trans HTW.out HGR.out)
        clear hr7 hg7 ha7 hb7 hk7 HT6 K6 HRO6 HB6 HLO HS6 HTW
        have HNX : Hid (∀ p, p ≤ 8 * bs.length → nextR (rowsF l) (bitsP bs (8 * m)) p = ((decF l bs p).1, (decF l bs p).2.2, (decF l bs p).2.1)) := Lib.hid (by rw [← HBL.out]; exact next_same HC.out bs)
        have HSH : Hid (∀ j, (rth (rowsF l) j).length ≤ 15) := Lib.hid (rows_short HOK.out)
        have hl288 : Hid (l.length ≤ 288) := Lib.hid (by rw [HLL.out]; exact hn288)
        obtain ⟨M, hM⟩ : ∃ M, M = 8 * m := ⟨_, rfl⟩
        rw [← hM] at HNX HRO7 ⊢
        have hMb : M ≤ 131072 := by omega
        have HM : Hid (8 * bs.length = M) := Lib.hid (by rw [HBL.out, hM])
        clear hM HOK HC HBL HN2 HY
        go_wp2_with fail
        go_loopw [13, 14] (fun pv tv wx => ∃ p t : Nat, p ≤ M ∧ t ≤ M + 1 ∧ pv = .int .i64 p ∧ tv = .int .i64 t ∧ Hid (DecT wx g top l) ∧ Hid (Keeps [] w6 wx) ∧ Hid (RI .u8 wx AO M (bitsP bs M)) ∧ Hid (Rdr wx gr A7 c7 bs p) ∧ Hid (Keeps [] w wx)) (fun _ tv _ => M + 1 - (intOf tv).toNat)
        case atStart => exact ⟨0, 0, by omega, by omega, rfl, rfl, HT7, HRB7, HRO7, HR7, K7⟩
        case round =>
          clear HT7 HRB7 HRO7 HR7 K7
          obtain ⟨p, t, hp, ht, rfl, rfl, HT7, HRB7, HRO7, HR7, K7⟩ := hrel
          by_cases htM : t ≤ M
          · have e0 : decide (t ≤ M) = true := by simpa using htM
            have e5 : decide ((t : Int) ≤ (M : Int)) = true := by simp; omega
            go_wp2_with fail
            refine (next_calls _ _ _ _ l _ _ bs p HT7.out HR7.out HGR.out hl288.out).mono ?_
            rintro _ w8 ⟨rfl, hr8, hk8⟩
            have hin : ∀ x ∈ [gr], top ≤ x := fun x hx => by rw [List.mem_singleton.1 hx]; exact HGR.out
            have HT8 := Lib.hid (HT7.out.keeps hk8 hin)
            have HRB8 := Lib.hid (HRB7.out.then hk8 (fun x hx => Or.inr (by rw [List.mem_singleton.1 hx]; exact HG6.out)))
            have HRO8 := Lib.hid (HRO7.out.keeps hk8 HOFF.out)
            have K8 := Lib.hid (K7.out.then hk8 (fun x hx => Or.inr (by rw [List.mem_singleton.1 hx]; exact HW7.out)))
            have HR8 := Lib.hid hr8
            have HNP := Lib.hid (HNX.out p (by rw [HM.out]; exact hp))
            clear hr8 hk8 HT7 HRB7 HRO7 HR7 K7 hin
            generalize decF l bs p = dr at *
            obtain ⟨sy, er, k⟩ := dr
            have hpk : p + k ≤ M := by have := HR8.out.le; rw [HM.out] at this; exact this
            go_wp2_with fail
            refine (refNext_calls _ _ _ _ _ _ _ _ p (HRB6.out.keeps HRB8.out (by simp)) HRO8.out hp (by omega) hn288 HSH.out).mono ?_
            rintro _ w9 ⟨rfl, hd9⟩
            have hk9 := hd9.keeps (S := [])
            have HT9 := Lib.hid (HT8.out.keeps hk9 (by simp))
            have HRB9 := Lib.hid (HRB8.out.trans hk9)
            have HRO9 := Lib.hid (HRO8.out.keeps hk9 (off_nil _))
            have HR9 := Lib.hid (HR8.out.dr hk9)
            have K9 := Lib.hid (K8.out.trans hk9)
            rw [HNP.out]
            clear hd9 hk9 HT8 HRB8 HRO8 HR8 K8 HNP
            go_wp2_with fail
            refine (gone_calls _ _ _ _ _ _ HR9.out).mono ?_
            rintro _ w10 ⟨rfl, hd10⟩
            have hk10 := hd10.keeps (S := [])
            have HT10 := Lib.hid (HT9.out.keeps hk10 (by simp))
            have HRB10 := Lib.hid (HRB9.out.trans hk10)
            have HRO10 := Lib.hid (HRO9.out.keeps hk10 (off_nil _))
            have HR10 := Lib.hid (HR9.out.dr hk10)
            have K10 := Lib.hid (K9.out.trans hk10)
            clear hd10 hk10 HT9 HRB9 HRO9 HR9 K9
            by_cases her : er = 0
            · have e6 : (er != 0) = false := by simp [her]
              go_wp2_with fail
              go_roundw
              case rel => exact ⟨p + k, t + 1, hpk, by omega, by go_num, by go_num, HT10, HRB10, HRO10, HR10, K10⟩
              case measure => simp [intOf]; omega
            · have e6 : (er != 0) = true := by simpa using her
              go_wp2_with fail
              refine (next_nor _ _).mono ?_
              rintro _ w11 ⟨rfl, hd11⟩
              have K11 := Lib.hid (K10.out.trans (hd11.keeps (S := [])))
              clear hd11 HT10 HRB10 HRO10 HR10 K10
              go_wp2_with fail
              refine (awake3_calls _).mono ?_
              rintro _ w12 ⟨rfl, hk12⟩
              have K12 := Lib.hid (K11.out.trans hk12)
              clear hk12 K11
              go_wp2_with fail
              go_ret
              exact ⟨rfl, K12.out⟩
          · have e0 : decide (t ≤ M) = false := by simpa using htM
            have e5 : decide ((t : Int) ≤ (M : Int)) = false := by simp; omega
            clear HT7 HRB7 HRO7 HR7
            go_wp2_with fail
            refine (next_nor _ _).mono ?_
            rintro _ w11 ⟨rfl, hd11⟩
            have K11 := Lib.hid (K7.out.trans (hd11.keeps (S := [])))
            clear hd11 K7
            go_wp2_with fail
            refine (awake3_calls _).mono ?_
            rintro _ w12 ⟨rfl, hk12⟩
            have K12 := Lib.hid (K11.out.trans hk12)
            clear hk12 K11
            go_wp2_with fail
            go_ret
            exact ⟨rfl, K12.out⟩
  · rw [if_neg hc] at hmade
    subst hmade
    have hc2 : (checkF l != 0) = true := by simpa using hc
    have HC := Lib.hid hc
    clear hc
    generalize hE : checkF l = er at *
    go_wp2_with fail
    refine (refCheck_calls _ _ _ _ l HL2.out hn3).mono ?_
    rintro _ w3 ⟨rfl, hd3⟩
    have hk3 := hd3.keeps (S := [])
    have HL3 := Lib.hid (HL2.out.keeps hk3 (off_nil _))
    have HB3 := Lib.hid (HB2.out.keeps hk3 (by simp))
    have K3 := Lib.hid (K2.out.trans hk3)
    clear hd3 hk3 HL2 HB2 K2
    rw [hE]
    clear hE
    go_wp2_with fail
    refine (back3_calls _ _ _ _ _ l HL3.out HB3.out hn2).mono ?_
    rintro _ w4 ⟨rfl, hd4⟩
    have K4 := Lib.hid (K3.out.trans (hd4.keeps (S := [])))
    clear hd4 HL3 HB3 K3
    go_wp2_with fail
    refine (awake3_calls _).mono ?_
    rintro e w5 ⟨rfl, hk5⟩
    have K5 := Lib.hid (K4.out.trans hk5)
    clear hk5 K4
    go_wp2_with fail
    go_ret
    exact ⟨rfl, K5.out⟩
end Go.Proofs.Ytcblibefmclloaa
