import Derived.Test.YtcblibefmclloaaDoorWrtC
import Derived.RegionTactic
import Derived.BigQuiet
import Derived.BigRegion
import Derived.Test.YtcblibefmclloaaDoorWrtH
import Derived.Test.YtcblibefmclloaaDoorWrtA
import Derived.Deep.Onto
import Derived.Outline
import Derived.Deep.RegionWith
import Derived.Test.YtcblibefmclloaaDoorWrtB
set_option linter.unusedVariables false
set_option linter.unusedSimpArgs false
namespace Go.Proofs.YtcblibefmclloaaDoor
open Go.RowKit
/-- What reading by rows is to give. -/
def Next3 (w : World) (r : Int × Nat × Int) (e : Ending) (w' : World) : Prop :=
  e = .returned (.tuple #[.int .i64 r.1, .int .i64 (r.2.1 : Nat), .int .i64 r.2.2]) ∧ Dr w w'
theorem next3 {w w' : World} {r : Int × Nat × Int} {s e k : Int} {n : Nat} (hr : r = (s, n, e)) (hk : k = n) (h : Dr w w') : Next3 w r (.returned (.tuple #[.int .i64 s, .int .i64 k, .int .i64 e])) w' := by
  subst hr; subst hk; exact ⟨rfl, h⟩
set_option maxRecDepth 100000 in
set_option maxHeartbeats 1000000 in
theorem refNext_calls (w : World) (g n : Nat) (rs : List (List Int)) (B : Option Addr) (m c : Nat) (bl : List Int) (p : Nat) (hB : RB w g n rs) (hb : RI .u8 w B m bl) (hp : p ≤ m) (hm : m ≤ 100000000) (hn : n ≤ 288) (hrow : ∀ j, (rth rs j).length ≤ 15) :
    Calls Tryd.prog 87 #[.slice (some ⟨g, 0, none⟩) n n, .slice B m c, .int .i64 p] w (Next3 w (nextR rs bl p)) := by
  have HB := Lib.hid hB
  have HBL := Lib.hid hb
  have HLL := Lib.hid hb.len
  have HRL := Lib.hid hB.len
  have HRW := Lib.hid hrow
  clear hB hb hrow
  go_enter Tryd.func87, Tryd.ntmps87
  go_wp2_with fail
  go_loopw [9, 10] (fun bv iv wr => ∃ (b : Bool) (i : Nat), i ≤ n ∧ bv = .bool b ∧ iv = .int .i64 i ∧ Hid (nextR rs bl p = nextG rs bl p (n - i) i b) ∧ Hid (Dr w wr)) (fun _ iv _ => n - (intOf iv).toNat)
  case atStart => exact ⟨false, 0, by omega, rfl, rfl, Lib.hid (by rw [Nat.sub_zero]; unfold nextR; rw [HRL.out]), Lib.hid ⟨0, rfl⟩⟩
  case round =>
    obtain ⟨b, i, hi, rfl, rfl, HR, HD⟩ := hrel
    obtain ⟨q, rfl⟩ := HD.out
    clear HD
    by_cases hlt : i < n
    · obtain ⟨A', c', hcr, hri, hra⟩ := HB.out.at hlt
      have e0 : decide ((i : Int) < (n : Int)) = true := by simpa using hlt
      have HST : Hid (nextG rs bl p (n - i) i b = if (rth rs i).length = 0 then nextG rs bl p (n - (i + 1)) (i + 1) b else
          if agrN (rth rs i) bl p = (rth rs i).length then ((i : Int), (rth rs i).length, 0)
          else nextG rs bl p (n - (i + 1)) (i + 1) (b || decide (p + agrN (rth rs i) bl p = bl.length))) := by
        show _ = _
        rw [show n - i = (n - (i + 1)) + 1 by omega, nextG]
      have hk15 := HRW.out i
      obtain ⟨K, hK⟩ : ∃ K, K = (rth rs i).length := ⟨_, rfl⟩
      rw [← hK] at hcr hri hk15
      have HK := Lib.hid hK
      have HRI := Lib.hid hri
      clear hK hri hra
      by_cases hz : K = 0
      · have e1 : ((K : Int) == 0) = true := by simpa using hz
        have HN : Hid (nextR rs bl p = nextG rs bl p (n - (i + 1)) (i + 1) b) := by
          show _ = _
          rw [HR.out, HST.out, if_pos (by rw [← HK.out]; exact hz)]
        clear HST HR
        go_wp2_with fail
        go_roundw
        case rel => exact ⟨b, i + 1, by omega, rfl, by go_num, HN, Lib.hid ⟨_, rfl⟩⟩
        case measure => simp [intOf]; omega
      · have e1 : ((K : Int) == 0) = false := by simpa using hz
        have HN : Hid (nextR rs bl p = if agrN (rth rs i) bl p = K then ((i : Int), K, 0)
          else nextG rs bl p (n - (i + 1)) (i + 1) (b || decide (p + agrN (rth rs i) bl p = bl.length))) := by
          show _ = _
          rw [HR.out, HST.out, if_neg (by rw [← HK.out]; exact hz), HK.out]
        have HAG0 : Hid (agrN (rth rs i) bl p = agr (rth rs i) bl p (K - 0) 0) := by
          show _ = _
          rw [Nat.sub_zero]; unfold agrN; rw [HK.out]
        clear HST HR
        go_wp2_with fail
        go_loopw [11] (fun nv wx => ∃ t : Nat, t ≤ K ∧ nv = .int .i64 t ∧ p + t ≤ m ∧ Hid (agrN (rth rs i) bl p = agr (rth rs i) bl p (K - t) t) ∧ Hid (Dr w wx)) (fun nv _ => K - (intOf nv).toNat)
        case atStart => exact ⟨0, by omega, rfl, by omega, HAG0, Lib.hid ⟨_, rfl⟩⟩
        case round =>
          clear HAG0
          obtain ⟨t, ht, rfl, hpt, HAG, HD⟩ := hrel
          obtain ⟨q2, rfl⟩ := HD.out
          clear HD
          by_cases htk : t < K
          · have e2 : decide ((t : Int) < (K : Int)) = true := by simpa using htk
            have e5 : ((t : Int) == (K : Int)) = false := by simp; omega
            by_cases hpm : p + t < m
            · have e3 : decide ((p : Int) + (t : Int) < (m : Int)) = true := by simp; omega
              have e6 : ((p : Int) + (t : Int) == (m : Int)) = false := by simp; omega
              obtain ⟨rb, ro, rfl, hc1⟩ := HRI.out.at htk
              obtain ⟨bb, bo, rfl, hc2⟩ := HBL.out.at hpm
              by_cases heq : nth (rth rs i) t = nth bl (p + t)
              · have e4 : (nth (rth rs i) t == nth bl (p + t)) = true := by simpa using heq
                have HAG2 : Hid (agrN (rth rs i) bl p = agr (rth rs i) bl p (K - (t + 1)) (t + 1)) := by
                  show _ = _
                  rw [HAG.out, show K - t = (K - (t + 1)) + 1 by omega, agr, if_pos ⟨by rw [← HK.out]; exact htk, by rw [HLL.out]; exact hpm, heq⟩]
                clear HAG
                generalize nth (rth rs i) t = x at *
                generalize nth bl (p + t) = y at *
                go_wp2_with fail
                go_quiet (fail)
                go_wp2_with fail
                go_roundw
                case rel => exact ⟨t + 1, by omega, by go_num, by omega, HAG2, Lib.hid ⟨_, rfl⟩⟩
                case measure => simp [intOf]; omega
              · have e4 : (nth (rth rs i) t == nth bl (p + t)) = false := by simpa using heq
                have HN2 : Hid (nextR rs bl p = nextG rs bl p (n - (i + 1)) (i + 1) b) := by
                  show _ = _
                  have ha : agrN (rth rs i) bl p = t := by rw [HAG.out, show K - t = (K - (t + 1)) + 1 by omega, agr, if_neg (fun h => heq h.2.2)]
                  rw [HN.out, ha, if_neg (by omega), decide_eq_false (by rw [HLL.out]; omega), Bool.or_false]
                clear HAG HN
                generalize nth (rth rs i) t = x at *
                generalize nth bl (p + t) = y at *
                cases b
                · go_wp2_with fail
                  go_quiet (fail)
                  go_wp2_with fail
                  go_roundw
                  case rel => exact ⟨false, i + 1, by omega, rfl, by go_num, HN2, Lib.hid ⟨_, rfl⟩⟩
                  case measure => simp [intOf]; omega
                · go_wp2_with fail
                  go_quiet (fail)
                  go_wp2_with fail
                  go_roundw
                  case rel => exact ⟨true, i + 1, by omega, rfl, by go_num, HN2, Lib.hid ⟨_, rfl⟩⟩
                  case measure => simp [intOf]; omega
            · have e3 : decide ((p : Int) + (t : Int) < (m : Int)) = false := by simp; omega
              have e6 : ((p : Int) + (t : Int) == (m : Int)) = true := by simp; omega
              have HN2 : Hid (nextR rs bl p = nextG rs bl p (n - (i + 1)) (i + 1) true) := by
                show _ = _
                have ha : agrN (rth rs i) bl p = t := by rw [HAG.out, show K - t = (K - (t + 1)) + 1 by omega, agr, if_neg (fun h => by have := h.2.1; rw [HLL.out] at this; omega)]
                rw [HN.out, ha, if_neg (by omega), decide_eq_true (by rw [HLL.out]; omega), Bool.or_true]
              clear HAG HN
              cases b
              · go_wp2_with fail
                go_quiet (fail)
                go_wp2_with fail
                go_roundw
                case rel => exact ⟨true, i + 1, by omega, rfl, by go_num, HN2, Lib.hid ⟨_, rfl⟩⟩
                case measure => simp [intOf]; omega
              · go_wp2_with fail
                go_quiet (fail)
                go_wp2_with fail
                go_roundw
                case rel => exact ⟨true, i + 1, by omega, rfl, by go_num, HN2, Lib.hid ⟨_, rfl⟩⟩
                case measure => simp [intOf]; omega
          · obtain rfl : t = K := by omega
            have e2 : decide ((t : Int) < (t : Int)) = false := by simp
            have e5 : ((t : Int) == (t : Int)) = true := by simp
            have HN2 : Hid (nextR rs bl p = ((i : Int), t, 0)) := by
              show _ = _
              rw [HN.out, HAG.out, Nat.sub_self, agr, if_pos rfl]
            clear HAG HN
            go_wp2_with fail
            go_quiet (fail)
            go_wp2_with fail
            go_ret3
            exact next3 HN2.out rfl ⟨_, rfl⟩
    · obtain rfl : i = n := by omega
      have e0 : decide ((i : Int) < (i : Int)) = false := by simp
      have HN : Hid (nextR rs bl p = (0, 0, if b then 10 else 32)) := by show _ = _; rw [HR.out, Nat.sub_self, nextG]
      cases b
      · go_wp2_with fail
        go_ret3
        exact next3 HN.out rfl ⟨_, rfl⟩
      · go_wp2_with fail
        go_ret3
        exact next3 HN.out rfl ⟨_, rfl⟩
end Go.Proofs.YtcblibefmclloaaDoor

set_option linter.unusedVariables false
set_option linter.unusedSimpArgs false
namespace Go.Proofs.YtcblibefmclloaaDoor
open Go.RowKit
/-- What reading one step is to give. -/
def Stepped (w : World) (gh : Nat) (B : Option Addr) (M c p : Nat) (bs codes : List Int) (e : Ending) (w' : World) : Prop :=
  ∃ (sy ex : Int) (q : Nat) (E : Int), e = .returned (.agg #[.int .i64 sy, .int .i64 ex]) ∧ HB w' gh B M c q E ∧ Keeps [gh] w w' ∧
    ((decF codes bs p).2.1 ≠ 0 → E = (decF codes bs p).2.1) ∧
    ((decF codes bs p).2.1 = 0 → if M < p + (decF codes bs p).2.2 + wN (decF codes bs p).1 then E = 10
      else E = 0 ∧ sy = (decF codes bs p).1 ∧ ex = numB bs (p + (decF codes bs p).2.2) (wN (decF codes bs p).1) ∧ q = p + (decF codes bs p).2.2 + wN (decF codes bs p).1)
set_option maxRecDepth 100000 in
set_option maxHeartbeats 1000000 in
theorem step_calls (w : World) (gh gr : Nat) (B : Option Addr) (M c p : Nat) (bs codes : List Int) (hM : M = 8 * bs.length) (hb : HB w gh B M c p 0) (hr : RI .u8 w B M (bitsP bs M)) (hrow : RB w gr 19 (rowsF codes))
    (hck : checkF codes = 0) (hlen : codes.length = 19) (hsh : ∀ j, (rth (rowsF codes) j).length ≤ 15) (hp : p ≤ M) (hMb : M ≤ 100000000) (hgB : Off [gh] B) (hgr : ∀ x ∈ [gh], x < gr ∨ w.heap.size ≤ x) :
    Calls Tryd.prog 63 #[.pointer (some ⟨gh, 0, none⟩), .slice (some ⟨gr, 0, none⟩) 19 19] w (Stepped w gh B M c p bs codes) := by
  have hns := next_same hck bs p (by omega)
  rw [← hM] at hns
  have hbd := dec_bd codes bs p (by omega)
  rw [hlen, ← hM] at hbd
  have HH := Lib.hid hb
  have HR := Lib.hid hr
  have HRB := Lib.hid hrow
  have HSH := Lib.hid hsh
  have HNS := Lib.hid hns
  have HBD := Lib.hid hbd
  have hlt := Blk.lt hb
  clear hb hr hrow hsh hck hlen hns hbd hM
  obtain ⟨w0, hw0⟩ : ∃ w0, w0 = w.alloc (.cells #[.int .i64 0, .int .i64 0] 31) := ⟨_, rfl⟩
  have hk0 : Keeps [] w w0 := by rw [hw0]; exact (Keeps.refl [] w).alloc _
  obtain ⟨gs, hgs⟩ : ∃ gs, gs = w.heap.size := ⟨_, rfl⟩
  have HS0 : Hid (Blk w0 gs 31 [.int .i64 0, .int .i64 0]) := by rw [hw0, hgs]; exact Lib.hid (blk_new w 31 [.int .i64 0, .int .i64 0])
  have HH0 := Lib.hid (HB.keeps HH.out hk0 (by simp))
  have HR0 := Lib.hid (HR.out.keeps hk0 (off_nil _))
  have HRB0 := Lib.hid (HRB.out.keeps hk0 (by simp))
  have HK0 := Lib.hid hk0
  have h0 := Blk.cell HH0.out 0
  have h1 := Blk.cell HH0.out 1
  simp only [List.getElem?_cons_zero, List.getElem?_cons_succ] at h0 h1
  go_enter Tryd.func63, Tryd.ntmps63
  go_upto_region 1 with (fail)
  rw [← hw0, ← hgs]
  have hcl : ∀ q, Calls Tryd.prog 87 #[.slice (some ⟨gr, 0, none⟩) 19 19, .slice B M c, .int .i64 p] (w0.drewN q) fun e w' => e = .returned (.tuple #[.int .i64 (decF codes bs p).1, .int .i64 ((decF codes bs p).2.2 : Nat), .int .i64 (decF codes bs p).2.1]) ∧ ∃ m, w' = (w0.drewN q).drewN m := fun q => by
    have h := refNext_calls (w0.drewN q) gr 19 (rowsF codes) B M c (bitsP bs M) p (HRB0.out.keeps ((Keeps.refl [] w0).drewN q) (by simp)) (HR0.out.keeps ((Keeps.refl [] w0).drewN q) (off_nil _)) hp hMb (by omega) HSH.out
    rw [HNS.out] at h
    exact h
  have HCL := Lib.hid hcl
  clear hw0 hk0 HH HR HRB hcl
  generalize hdd : decF codes bs p = d at *
  obtain ⟨sy, er, k⟩ := d
  simp only [] at HBD
  go_quiet (first | (go_at_call 87; exact Calls.quiet_of (HCL.out _)))
  obtain ⟨w2, hw2⟩ : ∃ w2 : World, w2 = w0.drewN nq := ⟨_, rfl⟩
  have hk2 : Keeps [] w0 w2 := by rw [hw2]; exact (Keeps.refl [] w0).drewN _
  rw [← hw2]
  clear hw2
  have HH2 := Lib.hid (HB.keeps HH0.out hk2 (by simp))
  have HR2 := Lib.hid (HR0.out.keeps hk2 (off_nil _))
  have HS2 := Lib.hid (HS0.out.keeps hk2 (by simp))
  have HK2 := Lib.hid (HK0.out.trans hk2)
  have HGS : Hid (gh < gs) := Lib.hid (by rw [hgs]; exact hlt)
  have HGW : Hid (w.heap.size ≤ gs) := Lib.hid (by omega)
  clear hk2 h0 h1 HH0 HR0 HRB0 HS0 HK0 HNS HSH HCL hgs hlt hgr
  have h1 := Blk.cell HH2.out 1
  have h2 := Blk.cell HH2.out 2
  simp only [List.getElem?_cons_zero, List.getElem?_cons_succ] at h1 h2
  have f1 := Blk.frozen HH2.out 1
  have f2 := Blk.frozen HH2.out 2
  have k0 := Blk.cell HS2.out 0
  have k1 := Blk.cell HS2.out 1
  simp only [List.getElem?_cons_zero, List.getElem?_cons_succ] at k0 k1
  have j0 := Blk.frozen HS2.out 0
  have j1 := Blk.frozen HS2.out 1
  have hne : gh ≠ gs := by have := HGS.out; omega
  have hne' : gs ≠ gh := Ne.symm hne
  by_cases her : er = 0
  · obtain ⟨j, rfl, hj, hpk⟩ : ∃ j : Nat, sy = j ∧ j < 19 ∧ p + k ≤ M := by
      rcases HBD.out with ⟨_, h⟩ | ⟨h, _⟩
      · exact h
      · exact absurd her h
    subst her
    obtain ⟨w3, hw3⟩ : ∃ w3 : World, w3 = w2.setCell ⟨gh, 1, none⟩ (.int .i64 ((p : Int) + k)) := ⟨_, rfl⟩
    have hk3 : Keeps [gh] w2 w3 := by rw [hw3]; exact (Keeps.refl [gh] w2).setCell (p := ⟨gh, 1, none⟩) (Or.inl (by simp)) _
    have HH3 : Hid (HB w3 gh B M c (p + k) 0) := Lib.hid (by rw [hw3]; exact Blk.set HH2.out 1 (.int .i64 ((p + k : Nat) : Int)))
    have HS3 := Lib.hid (HS2.out.keeps hk3 (by simpa using hne'))
    have HR3 := Lib.hid (HR2.out.keeps hk3 hgB)
    have HK3 : Hid (Keeps [gh] w w3) := Lib.hid ((HK2.out.mono (by simp) : Keeps [gh] w w2).trans hk3)
    have e1 : IntKind.i64.wrap ((p : Int) + k) = (p : Int) + k := IntWalk.i64_in _ (by omega)
    clear hk3 HH2 HS2 HR2 HK2 HBD
    rcases (by omega : j < 16 ∨ j = 16 ∨ j = 17 ∨ j = 18) with hj16 | rfl | rfl | rfl
    · have q1 : ((j : Int) == 16) = false := by simp; omega
      have q2 : ((j : Int) == 17) = false := by simp; omega
      have q3 : ((j : Int) == 18) = false := by simp; omega
      have hw : wN (j : Int) = 0 := by unfold wN; rw [if_neg (by omega), if_neg (by omega), if_neg (by omega)]
      subst hw3
      go_wp2_with fail
      have hS := (HS3.out.set 0 (.int .i64 (j : Int))).set 1 (.int .i64 0)
      have hB := Blk.keeps HH3.out (((Keeps.refl [gs] _).setCell (p := ⟨gs, 0, none⟩) (Or.inl (by simp)) (.int .i64 (j : Int))).setCell (p := ⟨gs, 1, none⟩) (Or.inl (by simp)) (.int .i64 0)) (by simpa using hne)
      have hK := (HK3.out.setCell (p := ⟨gs, 0, none⟩) (Or.inr HGW.out) (.int .i64 (j : Int))).setCell (p := ⟨gs, 1, none⟩) (Or.inr HGW.out) (.int .i64 0)
      have c0 := Blk.cell hS 0
      have c1 := Blk.cell hS 1
      simp only [List.set_cons_zero, List.set_cons_succ, List.getElem?_cons_zero, List.getElem?_cons_succ] at c0 c1
      refine bodyPost_ret (v := .agg #[.int .i64 (j : Int), .int .i64 0]) (by simp [results, Tryd.results63, go_sem, c0, c1]) rfl ⟨(j : Int), 0, (p + k), 0, rfl, hB, hK, fun h => absurd (by rw [hdd]) h, fun _ => ?_⟩
      rw [hdd]
      simp only []
      rw [hw, if_neg (by omega)]
      refine ⟨?_, ?_, ?_, ?_⟩ <;> first | rfl | trivial
    · have hw : wN (((16 : Nat) : Int)) = 2 := rfl
      by_cases hfit : p + k + 2 ≤ M
      · go_wp2_with fail
        rw [← hw3]
        refine (htake_ok _ _ _ _ _ _ 2 bs HH3.out HR3.out hfit (by omega) hMb).mono ?_
        rintro _ w4 ⟨rfl, hh4, hk4⟩
        have HH4 := Lib.hid hh4
        have HS4 := Lib.hid (HS3.out.keeps hk4 (by simpa using hne'))
        have HK4 := Lib.hid (HK3.out.trans hk4)
        clear hh4 hk4 HH3 HS3 HR3 HK3 hw3 h1 h2 f1 f2 k0 k1 j0 j1
        have k0 := Blk.cell HS4.out 0
        have k1 := Blk.cell HS4.out 1
        simp only [List.getElem?_cons_zero, List.getElem?_cons_succ] at k0 k1
        have j0 := Blk.frozen HS4.out 0
        have j1 := Blk.frozen HS4.out 1
        generalize hex : numB bs (p + k) 2 = ex at *
        go_wp2_with fail
        have hS := (HS4.out.set 0 (.int .i64 16)).set 1 (.int .i64 ex)
        have hB := Blk.keeps HH4.out (((Keeps.refl [gs] _).setCell (p := ⟨gs, 0, none⟩) (Or.inl (by simp)) (.int .i64 16)).setCell (p := ⟨gs, 1, none⟩) (Or.inl (by simp)) (.int .i64 ex)) (by simpa using hne)
        have hK := (HK4.out.setCell (p := ⟨gs, 0, none⟩) (Or.inr HGW.out) (.int .i64 16)).setCell (p := ⟨gs, 1, none⟩) (Or.inr HGW.out) (.int .i64 ex)
        have c0 := Blk.cell hS 0
        have c1 := Blk.cell hS 1
        simp only [List.set_cons_zero, List.set_cons_succ, List.getElem?_cons_zero, List.getElem?_cons_succ] at c0 c1
        refine bodyPost_ret (v := .agg #[.int .i64 16, .int .i64 ex]) (by simp [results, Tryd.results63, go_sem, c0, c1]) rfl ⟨16, ex, (p + k + 2), 0, rfl, hB, hK, fun h => absurd (by rw [hdd]) h, fun _ => ?_⟩
        rw [hdd]
        simp only []
        rw [hw, if_neg (by omega)]
        refine ⟨?_, ?_, ?_, ?_⟩ <;> first | rfl | trivial | exact hex.symm
      · go_wp2_with fail
        rw [← hw3]
        refine (htake_end _ _ _ _ _ _ 2 HH3.out (by omega) (by omega) hpk hMb).mono ?_
        rintro _ w4 ⟨rfl, hh4, hk4⟩
        have HH4 := Lib.hid hh4
        have HS4 := Lib.hid (HS3.out.keeps hk4 (by simpa using hne'))
        have HK4 := Lib.hid (HK3.out.trans hk4)
        clear hh4 hk4 HH3 HS3 HR3 HK3 hw3 h1 h2 f1 f2 k0 k1 j0 j1
        have k0 := Blk.cell HS4.out 0
        have k1 := Blk.cell HS4.out 1
        simp only [List.getElem?_cons_zero, List.getElem?_cons_succ] at k0 k1
        have j0 := Blk.frozen HS4.out 0
        have j1 := Blk.frozen HS4.out 1
        go_wp2_with fail
        have hS := (HS4.out.set 0 (.int .i64 16)).set 1 (.int .i64 0)
        have hB := Blk.keeps HH4.out (((Keeps.refl [gs] _).setCell (p := ⟨gs, 0, none⟩) (Or.inl (by simp)) (.int .i64 16)).setCell (p := ⟨gs, 1, none⟩) (Or.inl (by simp)) (.int .i64 0)) (by simpa using hne)
        have hK := (HK4.out.setCell (p := ⟨gs, 0, none⟩) (Or.inr HGW.out) (.int .i64 16)).setCell (p := ⟨gs, 1, none⟩) (Or.inr HGW.out) (.int .i64 0)
        have c0 := Blk.cell hS 0
        have c1 := Blk.cell hS 1
        simp only [List.set_cons_zero, List.set_cons_succ, List.getElem?_cons_zero, List.getElem?_cons_succ] at c0 c1
        refine bodyPost_ret (v := .agg #[.int .i64 16, .int .i64 0]) (by simp [results, Tryd.results63, go_sem, c0, c1]) rfl ⟨16, 0, (p + k), 10, rfl, hB, hK, fun h => absurd (by rw [hdd]) h, fun _ => ?_⟩
        rw [hdd]
        simp only []
        rw [hw, if_pos (by omega)]
        all_goals trivial
    · have hw : wN (((17 : Nat) : Int)) = 3 := rfl
      by_cases hfit : p + k + 3 ≤ M
      · go_wp2_with fail
        rw [← hw3]
        refine (htake_ok _ _ _ _ _ _ 3 bs HH3.out HR3.out hfit (by omega) hMb).mono ?_
        rintro _ w4 ⟨rfl, hh4, hk4⟩
        have HH4 := Lib.hid hh4
        have HS4 := Lib.hid (HS3.out.keeps hk4 (by simpa using hne'))
        have HK4 := Lib.hid (HK3.out.trans hk4)
        clear hh4 hk4 HH3 HS3 HR3 HK3 hw3 h1 h2 f1 f2 k0 k1 j0 j1
        have k0 := Blk.cell HS4.out 0
        have k1 := Blk.cell HS4.out 1
        simp only [List.getElem?_cons_zero, List.getElem?_cons_succ] at k0 k1
        have j0 := Blk.frozen HS4.out 0
        have j1 := Blk.frozen HS4.out 1
        generalize hex : numB bs (p + k) 3 = ex at *
        go_wp2_with fail
        have hS := (HS4.out.set 0 (.int .i64 17)).set 1 (.int .i64 ex)
        have hB := Blk.keeps HH4.out (((Keeps.refl [gs] _).setCell (p := ⟨gs, 0, none⟩) (Or.inl (by simp)) (.int .i64 17)).setCell (p := ⟨gs, 1, none⟩) (Or.inl (by simp)) (.int .i64 ex)) (by simpa using hne)
        have hK := (HK4.out.setCell (p := ⟨gs, 0, none⟩) (Or.inr HGW.out) (.int .i64 17)).setCell (p := ⟨gs, 1, none⟩) (Or.inr HGW.out) (.int .i64 ex)
        have c0 := Blk.cell hS 0
        have c1 := Blk.cell hS 1
        simp only [List.set_cons_zero, List.set_cons_succ, List.getElem?_cons_zero, List.getElem?_cons_succ] at c0 c1
        refine bodyPost_ret (v := .agg #[.int .i64 17, .int .i64 ex]) (by simp [results, Tryd.results63, go_sem, c0, c1]) rfl ⟨17, ex, (p + k + 3), 0, rfl, hB, hK, fun h => absurd (by rw [hdd]) h, fun _ => ?_⟩
        rw [hdd]
        simp only []
        rw [hw, if_neg (by omega)]
        refine ⟨?_, ?_, ?_, ?_⟩ <;> first | rfl | trivial | exact hex.symm
      · go_wp2_with fail
        rw [← hw3]
        refine (htake_end _ _ _ _ _ _ 3 HH3.out (by omega) (by omega) hpk hMb).mono ?_
        rintro _ w4 ⟨rfl, hh4, hk4⟩
        have HH4 := Lib.hid hh4
        have HS4 := Lib.hid (HS3.out.keeps hk4 (by simpa using hne'))
        have HK4 := Lib.hid (HK3.out.trans hk4)
        clear hh4 hk4 HH3 HS3 HR3 HK3 hw3 h1 h2 f1 f2 k0 k1 j0 j1
        have k0 := Blk.cell HS4.out 0
        have k1 := Blk.cell HS4.out 1
        simp only [List.getElem?_cons_zero, List.getElem?_cons_succ] at k0 k1
        have j0 := Blk.frozen HS4.out 0
        have j1 := Blk.frozen HS4.out 1
        go_wp2_with fail
        have hS := (HS4.out.set 0 (.int .i64 17)).set 1 (.int .i64 0)
        have hB := Blk.keeps HH4.out (((Keeps.refl [gs] _).setCell (p := ⟨gs, 0, none⟩) (Or.inl (by simp)) (.int .i64 17)).setCell (p := ⟨gs, 1, none⟩) (Or.inl (by simp)) (.int .i64 0)) (by simpa using hne)
        have hK := (HK4.out.setCell (p := ⟨gs, 0, none⟩) (Or.inr HGW.out) (.int .i64 17)).setCell (p := ⟨gs, 1, none⟩) (Or.inr HGW.out) (.int .i64 0)
        have c0 := Blk.cell hS 0
        have c1 := Blk.cell hS 1
        simp only [List.set_cons_zero, List.set_cons_succ, List.getElem?_cons_zero, List.getElem?_cons_succ] at c0 c1
        refine bodyPost_ret (v := .agg #[.int .i64 17, .int .i64 0]) (by simp [results, Tryd.results63, go_sem, c0, c1]) rfl ⟨17, 0, (p + k), 10, rfl, hB, hK, fun h => absurd (by rw [hdd]) h, fun _ => ?_⟩
        rw [hdd]
        simp only []
        rw [hw, if_pos (by omega)]
        all_goals trivial
    · have hw : wN (((18 : Nat) : Int)) = 7 := rfl
      by_cases hfit : p + k + 7 ≤ M
      · go_wp2_with fail
        rw [← hw3]
        refine (htake_ok _ _ _ _ _ _ 7 bs HH3.out HR3.out hfit (by omega) hMb).mono ?_
        rintro _ w4 ⟨rfl, hh4, hk4⟩
        have HH4 := Lib.hid hh4
        have HS4 := Lib.hid (HS3.out.keeps hk4 (by simpa using hne'))
        have HK4 := Lib.hid (HK3.out.trans hk4)
        clear hh4 hk4 HH3 HS3 HR3 HK3 hw3 h1 h2 f1 f2 k0 k1 j0 j1
        have k0 := Blk.cell HS4.out 0
        have k1 := Blk.cell HS4.out 1
        simp only [List.getElem?_cons_zero, List.getElem?_cons_succ] at k0 k1
        have j0 := Blk.frozen HS4.out 0
        have j1 := Blk.frozen HS4.out 1
        generalize hex : numB bs (p + k) 7 = ex at *
        go_wp2_with fail
        have hS := (HS4.out.set 0 (.int .i64 18)).set 1 (.int .i64 ex)
        have hB := Blk.keeps HH4.out (((Keeps.refl [gs] _).setCell (p := ⟨gs, 0, none⟩) (Or.inl (by simp)) (.int .i64 18)).setCell (p := ⟨gs, 1, none⟩) (Or.inl (by simp)) (.int .i64 ex)) (by simpa using hne)
        have hK := (HK4.out.setCell (p := ⟨gs, 0, none⟩) (Or.inr HGW.out) (.int .i64 18)).setCell (p := ⟨gs, 1, none⟩) (Or.inr HGW.out) (.int .i64 ex)
        have c0 := Blk.cell hS 0
        have c1 := Blk.cell hS 1
        simp only [List.set_cons_zero, List.set_cons_succ, List.getElem?_cons_zero, List.getElem?_cons_succ] at c0 c1
        refine bodyPost_ret (v := .agg #[.int .i64 18, .int .i64 ex]) (by simp [results, Tryd.results63, go_sem, c0, c1]) rfl ⟨18, ex, (p + k + 7), 0, rfl, hB, hK, fun h => absurd (by rw [hdd]) h, fun _ => ?_⟩
        rw [hdd]
        simp only []
        rw [hw, if_neg (by omega)]
        refine ⟨?_, ?_, ?_, ?_⟩ <;> first | rfl | trivial | exact hex.symm
      · go_wp2_with fail
        rw [← hw3]
        refine (htake_end _ _ _ _ _ _ 7 HH3.out (by omega) (by omega) hpk hMb).mono ?_
        rintro _ w4 ⟨rfl, hh4, hk4⟩
        have HH4 := Lib.hid hh4
        have HS4 := Lib.hid (HS3.out.keeps hk4 (by simpa using hne'))
        have HK4 := Lib.hid (HK3.out.trans hk4)
        clear hh4 hk4 HH3 HS3 HR3 HK3 hw3 h1 h2 f1 f2 k0 k1 j0 j1
        have k0 := Blk.cell HS4.out 0
        have k1 := Blk.cell HS4.out 1
        simp only [List.getElem?_cons_zero, List.getElem?_cons_succ] at k0 k1
        have j0 := Blk.frozen HS4.out 0
        have j1 := Blk.frozen HS4.out 1
        go_wp2_with fail
        have hS := (HS4.out.set 0 (.int .i64 18)).set 1 (.int .i64 0)
        have hB := Blk.keeps HH4.out (((Keeps.refl [gs] _).setCell (p := ⟨gs, 0, none⟩) (Or.inl (by simp)) (.int .i64 18)).setCell (p := ⟨gs, 1, none⟩) (Or.inl (by simp)) (.int .i64 0)) (by simpa using hne)
        have hK := (HK4.out.setCell (p := ⟨gs, 0, none⟩) (Or.inr HGW.out) (.int .i64 18)).setCell (p := ⟨gs, 1, none⟩) (Or.inr HGW.out) (.int .i64 0)
        have c0 := Blk.cell hS 0
        have c1 := Blk.cell hS 1
        simp only [List.set_cons_zero, List.set_cons_succ, List.getElem?_cons_zero, List.getElem?_cons_succ] at c0 c1
        refine bodyPost_ret (v := .agg #[.int .i64 18, .int .i64 0]) (by simp [results, Tryd.results63, go_sem, c0, c1]) rfl ⟨18, 0, (p + k), 10, rfl, hB, hK, fun h => absurd (by rw [hdd]) h, fun _ => ?_⟩
        rw [hdd]
        simp only []
        rw [hw, if_pos (by omega)]
        all_goals trivial
  · have e1 : (er != 0) = true := by simpa using her
    go_wp2_with fail
    have hA := Blk.set HH2.out 2 (.int .i64 er)
    have hS := ((HS2.out.keeps ((Keeps.refl [gh] w2).setCell (p := ⟨gh, 2, none⟩) (Or.inl (by simp)) (.int .i64 er)) (by simpa using hne')).set 0 (.int .i64 0)).set 1 (.int .i64 0)
    have hB := Blk.keeps hA (((Keeps.refl [gs] _).setCell (p := ⟨gs, 0, none⟩) (Or.inl (by simp)) (.int .i64 0)).setCell (p := ⟨gs, 1, none⟩) (Or.inl (by simp)) (.int .i64 0)) (by simpa using hne)
    have hK := (((HK2.out.mono (by simp) : Keeps [gh] w w2).setCell (p := ⟨gh, 2, none⟩) (Or.inl (by simp)) (.int .i64 er)).setCell (p := ⟨gs, 0, none⟩) (Or.inr HGW.out) (.int .i64 0)).setCell (p := ⟨gs, 1, none⟩) (Or.inr HGW.out) (.int .i64 0)
    have c0 := Blk.cell hS 0
    have c1 := Blk.cell hS 1
    simp only [List.set_cons_zero, List.set_cons_succ, List.getElem?_cons_zero, List.getElem?_cons_succ] at c0 c1
    refine bodyPost_ret (v := .agg #[.int .i64 0, .int .i64 0]) (by simp [results, Tryd.results63, go_sem, c0, c1]) rfl ⟨0, 0, p, er, rfl, hB, hK, fun _ => by rw [hdd], fun h => ?_⟩
    rw [hdd] at h
    exact absurd h her
end Go.Proofs.YtcblibefmclloaaDoor

set_option linter.unusedVariables false
set_option linter.unusedSimpArgs false
namespace Go.Proofs.YtcblibefmclloaaDoor
open Go.RowKit
set_option maxHeartbeats 400000 in
theorem power_calls (w : World) (n : Nat) (hn : n ≤ 40) :
    Calls Tryd.prog 86 #[.int .i64 n] w fun e w' => e = .returned (.int .i64 ((2 ^ n : Nat) : Int)) ∧ Dr w w' := by
  go_enter Tryd.func86, Tryd.ntmps86
  go_wp2_with fail
  go_loopw [3, 4] (fun v i wr => ∃ (k : Nat) (m : Nat), k ≤ n ∧ i = .int .i64 k ∧ v = .int .i64 m ∧ Hid (m = 2 ^ k) ∧ Hid (Dr w wr)) (fun _ i _ => n - (intOf i).toNat)
  case atStart => exact ⟨0, 1, by omega, rfl, rfl, Lib.hid rfl, ⟨0, rfl⟩⟩
  case round =>
    obtain ⟨k, m, hk, rfl, rfl, HM, HD⟩ := hrel
    obtain ⟨q, rfl⟩ := HD.out
    clear HD
    have hb : m ≤ 1099511627776 := by
      rw [HM.out]
      exact Nat.le_trans (Nat.pow_le_pow_right (by decide) (show k ≤ 40 by omega)) (by decide)
    by_cases hlt : k < n
    · go_wp2_with fail
      go_roundw
      case rel => exact ⟨k + 1, 2 * m, by omega, by go_num, by go_num, Lib.hid (by rw [HM.out, Nat.pow_succ]; omega), ⟨_, rfl⟩⟩
      case measure => simp [intOf]; omega
    · obtain rfl : k = n := by omega
      go_wp2_with fail
      go_ret
      rw [← HM.out]
      exact ⟨rfl, _, rfl⟩
theorem power_calls' (w : World) (n : Nat) (ni : Int) (hi : ni = n) (hn : n ≤ 40) :
    Calls Tryd.prog 86 #[.int .i64 ni] w fun e w' => e = .returned (.int .i64 ((2 ^ n : Nat) : Int)) ∧ Dr w w' := by
  subst hi; exact power_calls w n hn
set_option maxHeartbeats 400000 in
theorem used_calls (w : World) (A : Option Addr) (n c : Nat) (l : List Int) (hl : RI .i64 w A n l) (hn : n ≤ 100000) :
    Calls Tryd.prog 85 #[.slice A n c] w fun e w' => e = .returned (.int .i64 (usedF l)) ∧ Dr w w' := by
  have HLL := Lib.hid hl.len
  have HL := Lib.hid hl
  clear hl
  go_enter Tryd.func85, Tryd.ntmps85
  go_wp2_with fail
  go_loopw [3, 4] (fun v i wr => ∃ k : Nat, k ≤ n ∧ i = .int .i64 k ∧ v = .int .i64 (usedF (l.take k)) ∧ Hid (Dr w wr)) (fun _ i _ => n - (intOf i).toNat)
  case atStart => exact ⟨0, by omega, rfl, rfl, ⟨0, rfl⟩⟩
  case round =>
    obtain ⟨k, hk, rfl, rfl, HD⟩ := hrel
    obtain ⟨q, rfl⟩ := HD.out
    clear HD
    have hu := usedF_le (l.take k)
    have htk : (l.take k).length = k := by rw [List.length_take]; have := HLL.out; omega
    rw [htk] at hu
    clear htk
    by_cases hlt : k < n
    · obtain ⟨b, o, rfl, hc⟩ := HL.out.at hlt
      have US := Lib.hid (usedF_snoc l k (by have := HLL.out; omega))
      generalize usedF (l.take k) = U at *
      by_cases hz : 0 < nth l k
      · have e3 : decide (0 < nth l k) = true := by simpa using hz
        have HU : Hid (usedF (l.take (k + 1)) = U + 1) := by have := US.out; rwa [if_pos hz] at this
        go_wp2_with fail
        go_roundw
        case rel => exact ⟨k + 1, by omega, by go_num, by rw [HU.out]; go_num, ⟨_, rfl⟩⟩
        case measure => simp [intOf]; omega
      · have e3 : decide (0 < nth l k) = false := by simpa using hz
        have HU : Hid (usedF (l.take (k + 1)) = U) := by have := US.out; rwa [if_neg hz, Nat.add_zero] at this
        go_wp2_with fail
        go_roundw
        case rel => exact ⟨k + 1, by omega, by go_num, by rw [HU.out], ⟨_, rfl⟩⟩
        case measure => simp [intOf]; omega
    · obtain rfl : k = n := by omega
      have htk : l.take k = l := List.take_of_length_le (by have := HLL.out; omega)
      rw [htk] at hu ⊢
      clear htk
      go_wp2_with fail
      go_ret
      exact ⟨rfl, _, rfl⟩
set_option maxHeartbeats 400000 in
theorem measure_calls (w : World) (A : Option Addr) (n c : Nat) (l : List Int) (hl : RI .i64 w A n l) (hn : n ≤ 100000) (hok : l.all okLen = true) :
    Calls Tryd.prog 84 #[.slice A n c] w fun e w' => e = .returned (.int .i64 (measF l)) ∧ Dr w w' := by
  have HLL := Lib.hid hl.len
  have HL := Lib.hid hl
  have HOK := Lib.hid hok
  clear hl hok
  go_enter Tryd.func84, Tryd.ntmps84
  go_wp2_with fail
  go_loopw [3, 4] (fun v i wr => ∃ k : Nat, k ≤ n ∧ i = .int .i64 k ∧ v = .int .i64 (measF (l.take k)) ∧ Hid (Dr w wr)) (fun _ i _ => n - (intOf i).toNat)
  case atStart => exact ⟨0, by omega, rfl, rfl, ⟨0, rfl⟩⟩
  case round =>
    obtain ⟨k, hk, rfl, rfl, HD⟩ := hrel
    obtain ⟨q, rfl⟩ := HD.out
    clear HD
    have hu := measF_le (l.take k) (by rw [List.all_eq_true]; intro x hx; exact List.all_eq_true.1 HOK.out x (List.mem_of_mem_take hx))
    have htk : (l.take k).length = k := by rw [List.length_take]; have := HLL.out; omega
    rw [htk] at hu
    clear htk
    by_cases hlt : k < n
    · obtain ⟨b, o, rfl, hc⟩ := HL.out.at hlt
      have hx : okLen (nth l k) = true := by rw [nth_lt (by have := HLL.out; omega)]; exact List.all_eq_true.1 HOK.out _ (List.getElem_mem _)
      have MS := Lib.hid (measF_snoc l k (by have := HLL.out; omega))
      have hple := part_le (nth l k) hx
      have hx1 : 0 ≤ nth l k ∧ nth l k ≤ 15 := by simpa [okLen] using hx
      obtain ⟨hx2, hx3⟩ := hx1
      clear hx
      generalize measF (l.take k) = M at *
      by_cases hz : 0 < nth l k
      · have e3 : decide (0 < nth l k) = true := by simpa using hz
        have HP : Hid (((2 ^ (15 - nth l k).toNat : Nat) : Int) = (part (nth l k) : Int)) := by show _ = _; unfold part; rw [if_pos hz]
        go_wp2_with fail
        refine (power_calls' _ (15 - nth l k).toNat _ (by omega) (by omega)).mono ?_
        rintro e w' ⟨rfl, hd⟩
        rw [HP.out]
        have HD2 := Lib.hid (Dr.trans ⟨q, rfl⟩ hd)
        clear hd
        go_wp2_with fail
        go_roundw
        case rel => exact ⟨k + 1, by omega, by go_num, by rw [MS.out]; go_num, HD2⟩
        case measure => simp [intOf]; omega
      · have e3 : decide (0 < nth l k) = false := by simpa using hz
        have HM : Hid (measF (l.take (k + 1)) = M) := by have := MS.out; rwa [part_zero _ hz, Nat.add_zero] at this
        go_wp2_with fail
        go_roundw
        case rel => exact ⟨k + 1, by omega, by go_num, by rw [HM.out], ⟨_, rfl⟩⟩
        case measure => simp [intOf]; omega
    · obtain rfl : k = n := by omega
      have htk : l.take k = l := List.take_of_length_le (by have := HLL.out; omega)
      rw [htk] at hu ⊢
      clear htk
      go_wp2_with fail
      go_ret
      exact ⟨rfl, _, rfl⟩
end Go.Proofs.YtcblibefmclloaaDoor

set_option linter.unusedVariables false
set_option linter.unusedSimpArgs false
namespace Go.Proofs.YtcblibefmclloaaDoor
open Go.RowKit
set_option maxRecDepth 100000 in
set_option maxHeartbeats 1000000 in
theorem refCheck_calls (w : World) (A : Option Addr) (n c : Nat) (l : List Int) (hl : RI .i64 w A n l) (hn : n ≤ 140737488355328) :
    Calls Tryd.prog 61 #[.slice A n c] w fun e w' => e = .returned (.int .i64 (checkF l)) ∧ Dr w w' := by
  have hll := hl.len
  have HL := Lib.hid hl
  have HLL := Lib.hid hll
  clear hl
  by_cases h0 : n < 1
  · have hr : checkF l = 1 := by rw [checkF, if_pos (by omega)]
    have e0 : decide (n < 1) = true := by simpa using h0
    clear hll
    rw [hr]
    clear hr
    go_enter Tryd.func61, Tryd.ntmps61
    go_wp2_with fail
    go_ret
    exact ⟨rfl, 0, rfl⟩
  · have e0 : decide (n < 1) = false := by simpa using h0
    by_cases hb : 288 < n
    · have hr : checkF l = 1 := by rw [checkF, if_pos (by omega)]
      have e1 : decide (288 < n) = true := by simpa using hb
      clear hll
      rw [hr]
      clear hr
      go_enter Tryd.func61, Tryd.ntmps61
      go_wp2_with fail
      go_ret
      exact ⟨rfl, 0, rfl⟩
    · have e1 : decide (288 < n) = false := by simp; omega
      clear hll
      go_enter Tryd.func61, Tryd.ntmps61
      go_wp2_with fail
      clear e0 e1
      go_loopw [3] (fun i wr => ∃ k : Nat, k ≤ n ∧ i = .int .i64 k ∧ Hid ((l.take k).all okLen = true) ∧ Hid (Dr w wr)) (fun i _ => n - (intOf i).toNat)
      case atStart => exact ⟨0, by omega, rfl, Lib.hid (by simp), ⟨0, rfl⟩⟩
      case round =>
        obtain ⟨k, hk, rfl, HA, HD⟩ := hrel
        by_cases hlt : k < n
        · obtain ⟨q, rfl⟩ := HD.out
          clear HD
          obtain ⟨b, o, rfl, hc⟩ := HL.out.at hlt
          have asn := all_snoc l k (by have := HLL.out; omega)
          rw [HA.out] at asn
          have AS := Lib.hid asn
          clear asn
          by_cases hneg : nth l k < 0
          · have e1 : decide (nth l k < 0) = true := by simpa using hneg
            have hok : okLen (nth l k) = false := by simp [okLen]; omega
            have hr : checkF l = 1 := by rw [checkF, if_neg (by have := HLL.out; omega), if_pos (all_hit l k (by have := HLL.out; omega) hok)]
            have HR := Lib.hid hr
            clear hr hok
            go_wp2_with fail
            go_ret
            rw [HR.out]
            exact ⟨rfl, _, rfl⟩
          · have e1 : decide (nth l k < 0) = false := by simpa using hneg
            by_cases hbig : 15 < nth l k
            · have e2 : decide (15 < nth l k) = true := by simpa using hbig
              have hok : okLen (nth l k) = false := by simp [okLen]; omega
              have hr : checkF l = 1 := by rw [checkF, if_neg (by have := HLL.out; omega), if_pos (all_hit l k (by have := HLL.out; omega) hok)]
              have HR := Lib.hid hr
              clear hr hok
              go_wp2_with fail
              go_ret
              rw [HR.out]
              exact ⟨rfl, _, rfl⟩
            · have e2 : decide (15 < nth l k) = false := by simpa using hbig
              have hok : okLen (nth l k) = true := by simp [okLen]; omega
              have HOK := Lib.hid hok
              clear hok
              go_wp2_with fail
              go_roundw
              case rel => exact ⟨k + 1, by omega, by go_num, Lib.hid (AS.out.trans (by rw [HOK.out]; rfl)), ⟨_, rfl⟩⟩
              case measure => simp [intOf]; omega
        · obtain rfl : k = n := by omega
          have htk : l.take k = l := List.take_of_length_le (by have := HLL.out; omega)
          rw [htk] at HA
          have hlen := HLL.out
          have hm := measF_le l HA.out
          have HR : Hid (checkF l = if 32768 < measF l then 30 else if measF l = 32768 then 0 else if usedF l = 1 ∧ measF l = 16384 then 0 else 31) := by
            show _ = _
            rw [checkF, if_neg (by omega), if_neg (by rw [HA.out]; simp)]
          rw [hlen] at hm
          clear htk hlen
          go_wp2_with fail
          refine (measure_calls _ _ _ _ l (HL.out.keeps (HD.out.keeps (S := [])) (off_nil _)) (by omega) HA.out).mono ?_
          rintro e w1 ⟨rfl, hd1⟩
          have HD1 := Lib.hid (HD.out.trans hd1)
          clear HD hd1
          by_cases c1 : 32768 < measF l
          · have e1 : decide ((32768 : Int) < (measF l : Int)) = true := by simp; omega
            go_wp2_with fail
            go_ret
            rw [HR.out, if_pos c1]
            exact ⟨rfl, HD1.out⟩
          · have e1 : decide ((32768 : Int) < (measF l : Int)) = false := by simp; omega
            by_cases c2 : measF l = 32768
            · have e2 : ((measF l : Int) == 32768) = true := by simp; omega
              have C2 := Lib.hid c2
              clear c2
              go_wp2_with fail
              go_ret
              rw [HR.out, if_neg c1, if_pos C2.out]
              exact ⟨rfl, HD1.out⟩
            · have e2 : ((measF l : Int) == 32768) = false := by simp; omega
              go_wp2_with fail
              refine (used_calls _ _ _ _ l (HL.out.keeps (HD1.out.keeps (S := [])) (off_nil _)) (by omega)).mono ?_
              rintro e w2 ⟨rfl, hd2⟩
              have HD2 := Lib.hid (HD1.out.trans hd2)
              clear HD1 hd2
              by_cases c3 : usedF l = 1
              · have e3 : ((usedF l : Int) == 1) = true := by simp; omega
                have C3 := Lib.hid c3
                clear c3
                by_cases c4 : measF l = 16384
                · have e4 : ((measF l : Int) == 16384) = true := by simp; omega
                  have C4 := Lib.hid c4
                  have C2 := Lib.hid c2
                  clear c4 c2
                  go_wp2_with fail
                  go_ret
                  rw [HR.out, if_neg c1, if_neg C2.out, if_pos ⟨C3.out, C4.out⟩]
                  exact ⟨rfl, HD2.out⟩
                · have e4 : ((measF l : Int) == 16384) = false := by simp; omega
                  go_wp2_with fail
                  go_ret
                  rw [HR.out, if_neg c1, if_neg c2, if_neg (fun h => c4 h.2)]
                  exact ⟨rfl, HD2.out⟩
              · have e3 : ((usedF l : Int) == 1) = false := by simp; omega
                go_wp2_with fail
                go_ret
                rw [HR.out, if_neg c1, if_neg c2, if_neg (fun h => c3 h.1)]
                exact ⟨rfl, HD2.out⟩
end Go.Proofs.YtcblibefmclloaaDoor

set_option linter.unusedVariables false
set_option linter.unusedSimpArgs false
namespace Go.Proofs.YtcblibefmclloaaDoor
open Go.RowKit
theorem msb_bit (c : Int) (j : Nat) (h : 0 ≤ c) : IntKind.u8.wrap (c / 2 ^ j % 2) = c / 2 ^ j % 2 := by rw [IntKind.wrap_u8]; omega
set_option maxRecDepth 100000 in
set_option maxHeartbeats 1000000 in
theorem rows_calls (w : World) (A : Option Addr) (n c : Nat) (l : List Int) (hl : RI .i64 w A n l) (hn : n ≤ 288) (hok : l.all okLen = true) :
    Calls Tryd.prog 62 #[.slice A n c] w fun e w' => e = .returned (.slice (some ⟨w.heap.size, 0, none⟩) n n) ∧ RB w' w.heap.size n (rowsF l) ∧ Below w.heap.size w w' := by
  have HL := Lib.hid hl
  have HLL := Lib.hid hl.len
  have HOK := Lib.hid hok
  clear hl hok
  obtain ⟨g, hg⟩ : ∃ g, g = w.heap.size := ⟨_, rfl⟩
  have HG := Lib.hid hg
  clear hg
  have hmk := fun w => make_rows w n (by omega)
  go_enter Tryd.func62, Tryd.ntmps62
  go_wp2_with fail
  rw [← HG.out]
  clear hmk
  have hw1 : w.alloc (.cells (Array.replicate n (Value.slice none 0 0)) 37) = w.alloc (.cells (List.replicate n (Value.slice none 0 0)).toArray 37) := by rw [List.toArray_replicate]
  rw [hw1]
  clear hw1
  have R0 : Hid (RB (w.alloc (.cells (List.replicate n (Value.slice none 0 0)).toArray 37)) g n (rowsAt l 1 0)) := by
    rw [rowsAt_zero, HLL.out, HG.out]; exact RB.new w n
  have B0 : Hid (Below g w (w.alloc (.cells (List.replicate n (Value.slice none 0 0)).toArray 37))) := by rw [HG.out]; exact Lib.hid ((Below.refl _ _).alloc (Nat.le_refl _) _)
  generalize hw0 : w.alloc (.cells (List.replicate n (Value.slice none 0 0)).toArray 37) = w0 at *
  have HW0 := Lib.hid hw0
  clear hw0
  go_loopw [4, 5, 6] (fun cv lv nv wr => ∃ (m last : Nat) (code : Int), 1 ≤ m ∧ m ≤ 16 ∧ nv = .int .i64 m ∧ lv = .int .i64 last ∧ cv = .int .i64 code ∧ Hid (m < 16 → Last l m 0 code last) ∧ Hid (RB wr g n (rowsAt l m 0)) ∧ Hid (Below g w wr)) (fun _ _ nv _ => 16 - (intOf nv).toNat)
  case atStart => exact ⟨1, 0, 0, by omega, by omega, rfl, rfl, rfl, Lib.hid (fun _ => last_start l), R0, B0⟩
  case round =>
    clear R0 B0
    obtain ⟨m, last0, code0, hm1, hm2, rfl, rfl, rfl, HLS0, HR0, HB0⟩ := hrel
    by_cases hm : m ≤ 15
    · obtain ⟨wo, rfl⟩ : ∃ wo : World, wo = wr := ⟨_, rfl⟩
      have HLS1 := Lib.hid (HLS0.out (by omega))
      clear HLS0
      have e0 : decide ((m : Int) ≤ 15) = true := by simp; omega
      go_wp2_with fail
      go_loopw [4, 5, 7] (fun cv lv iv wr => ∃ (i last : Nat) (code : Int), i ≤ n ∧ iv = .int .i64 i ∧ lv = .int .i64 last ∧ cv = .int .i64 code ∧ Hid (Last l m i code last) ∧ Hid (RB wr g n (rowsAt l m i)) ∧ Hid (Below g w wr)) (fun _ _ iv _ => n - (intOf iv).toNat)
      case atStart => exact ⟨0, last0, code0, by omega, rfl, rfl, rfl, HLS1, HR0, HB0⟩
      case round =>
        clear HLS1 HR0 HB0
        obtain ⟨i, last, code, hi, rfl, rfl, rfl, HLS, HR, HB⟩ := hrel
        by_cases hlt : i < n
        · obtain ⟨b, o, rfl, hc⟩ := HL.out.at hlt
          have hc := (Keeps.of_below (S := []) (HG.out ▸ HB.out)).cell (by simp) hc
          by_cases hx : nth l i = m
          · have e1 : (nth l i != (m : Int)) = false := by simpa using hx
            have HX := Lib.hid hx
            clear hx
            have hil : Hid (i < l.length) := by have := HLL.out; show _ < _; omega
            go_upto_if 31 with (fail)
            go_cut [4] (fun cv wc => ∃ d : Int, cv = .int .i64 d ∧ 0 ≤ d ∧ d ≤ 50000000 ∧ Hid (d = codeI l i) ∧ Hid (Dr wr wc))
            case first =>
              have hbd := posF_bd l (by have := HLL.out; omega) m i (by omega)
              rw [← posF_code l m i HX.out] at hbd
              obtain ⟨hb0, hb1⟩ := hbd
              have hlast : last ≤ m := HLS.out.2.2.1
              have hcd0 : 0 ≤ code := HLS.out.1
              have hcd1 : code ≤ 50000000 := HLS.out.2.1
              by_cases hz : last = 0
              · have HC := Lib.hid (last_code0 HLS.out HX.out hz)
                subst hz
                go_wp2_with fail
                go_meet
                case rel => exact ⟨code, rfl, by have := HC.out; omega, by have := HC.out; omega, HC, Lib.hid (Dr.refl _)⟩
              · have e2 : 0 < last := by omega
                have HC := Lib.hid (last_code HLS.out HX.out hz)
                have hp : Hid ((2 ^ (m - last) : Int) = ((2 ^ (m - last) : Nat) : Int)) := by show _ = _; simp
                rw [hp.out] at HC
                clear hz hp
                go_wp2_with fail
                refine (power_calls' _ (m - last) _ (by omega) (by omega)).mono ?_
                rintro _ w2 ⟨rfl, hd2⟩
                have HD2 := Lib.hid hd2
                clear hd2
                generalize 2 ^ (m - last) = P at *
                have hwr : IntKind.i64.wrap ((code + 1) * (P : Int)) = (code + 1) * (P : Int) := IntWalk.i64_in _ (by rw [HC.out]; omega)
                go_wp2_with fail
                go_meet
                case rel => exact ⟨_, rfl, by rw [HC.out]; omega, by rw [HC.out]; omega, HC, HD2⟩
            case rest =>
              obtain ⟨d, rfl, hd0, hd1, HD, HDR⟩ := hcut
              obtain ⟨q1, rfl⟩ := HDR.out
              clear HDR
              obtain ⟨h, hh⟩ : ∃ h, h = wr.heap.size := ⟨_, rfl⟩
              have HH := Lib.hid hh
              clear hh
              have hmk := fun w => make_ints (P := Tryd.prog) w 37 5 .u8 1 Tryd.underlying37 info_u8 (m : Int) m rfl (by omega) (by omega)
              have HN : Hid (Blk ((wr.drewN q1).alloc (.cells (ints .u8 (List.replicate m 0)).toArray 5)) h 5 (ints .u8 (msbP d m 0))) := by
                rw [msbP_zero, HH.out]; exact blk_new (wr.drewN q1) _ _
              have HNB : Hid (Below h wr ((wr.drewN q1).alloc (.cells (ints .u8 (List.replicate m 0)).toArray 5))) := by rw [HH.out]; exact (((Keeps.refl [] wr).drewN q1).alloc _).below
              clear hc
              go_wp2_with fail
              rw [← HH.out]
              obtain ⟨wm, rfl⟩ : ∃ wm : World, wm = wr := ⟨_, rfl⟩
              go_loopw [9, 10] (fun cv kv wx => ∃ (j K : Nat) (x : Int), K ≤ m ∧ kv = .int .i64 ((K : Int) - 1) ∧ cv = .int .i64 x ∧ 0 ≤ x ∧ x ≤ 50000000 ∧ Hid (K + j = m) ∧ Hid (x = d / 2 ^ j) ∧ Hid (Blk wx h 5 (ints .u8 (msbP d m j))) ∧ Hid (Below h wm wx)) (fun _ kv _ => (intOf kv + 1).toNat)
              case atStart => exact ⟨0, m, d, by omega, by go_num, rfl, hd0, hd1, Lib.hid rfl, Lib.hid (by simp), HN, HNB⟩
              case round =>
                clear HN HNB
                obtain ⟨j, K, x, hK, rfl, rfl, hx0, hx1, HJ, HX2, HBK, HBW⟩ := hrel
                by_cases hk : 0 < K
                · obtain ⟨k, rfl⟩ : ∃ k, K = k + 1 := ⟨K - 1, by omega⟩
                  have hk1 : ((k + 1 : Nat) : Int) - 1 = k := by omega
                  rw [hk1]
                  clear hk1
                  have hfr := HBK.out.frozen k
                  have hcl := HBK.out.cellI (j := k) (by rw [msbP_len]; omega)
                  generalize nth (msbP d m j) k = z at *
                  have HBK2 : Hid (Blk (wr.setCell ⟨h, k, none⟩ (.int .u8 (x % 2))) h 5 (ints .u8 (msbP d m (j + 1)))) := by
                    have := HBK.out.set k (.int .u8 (x % 2))
                    rw [set_ints] at this
                    rw [msbP_step d m j (by have := HJ.out; omega), ← HX2.out, show m - 1 - j = k by have := HJ.out; omega]; exact this
                  have HBW2 := Lib.hid (HBW.out.setCell (p := ⟨h, k, none⟩) (Nat.le_refl _) (.int .u8 (x % 2)))
                  have e3 : x.tmod 2 = x % 2 := by rw [Int.tmod_eq_emod_of_nonneg hx0]
                  have e4 : x % 2 % 256 = x % 2 := by omega
                  clear HBK HBW
                  go_wp2_with fail
                  go_roundw
                  case rel => exact ⟨j + 1, k, x / 2, by omega, rfl, rfl, by omega, by omega, Lib.hid (by have := HJ.out; omega), Lib.hid (by rw [HX2.out, div_two]), HBK2, HBW2⟩
                  case measure => simp [intOf]
                · obtain rfl : K = 0 := by omega
                  obtain rfl : m = j := by have := HJ.out; omega
                  rw [msbP_all] at HBK
                  have HRX : Hid (RB wr g n (rowsAt l m i)) := HR.out.below (HH.out ▸ HBW.out)
                  have HWW := Lib.hid (HB.out.trans (HBW.out.mono (by have := HR.out.lt; rw [HH.out]; omega)))
                  have hgs : Hid (g ≤ h) := by have := HR.out.lt; rw [HH.out]; show _ ≤ _; omega
                  obtain ⟨A', c', hcl, -, -⟩ := HRX.out.at hlt
                  have hfr := HRX.out.free i
                  have HOWN : Hid (wr.ownsRow (g + 1) 5 1 (.slice (some ⟨h, 0, none⟩) m m) m (ints .u8 (msbF d m))) := own_of_blkK HBK.out (msbF_len d m) (by have := HR.out.lt; rw [HH.out]; omega) (by omega)
                  have HSET : Hid (RB (wr.setCell ⟨g, i, none⟩ (.slice (some ⟨h, 0, none⟩) m m)) g n (rowsAt l m (i + 1))) := by
                    rw [rowsAt_step l m i hil.out hm1 HX.out, ← HD.out]
                    exact HRX.out.set i _ _ (by rw [msbF_len]; exact HOWN.out)
                  have HSW := Lib.hid (HWW.out.setCell (p := ⟨g, i, none⟩) (Nat.le_refl _) (.slice (some ⟨h, 0, none⟩) m m))
                  have HLS2 : Hid (Last l m (i + 1) d m) := by rw [HD.out]; exact last_step (by have := hil.out; have := HLL.out; omega) (by omega) hm1 hil.out HX.out
                  clear HRX HWW HBK HBW HB HR HOWN HLS
                  go_wp2_with fail
                  go_roundw
                  case rel => exact ⟨i + 1, m, d, by omega, by go_num, rfl, rfl, HLS2, HSET, HSW⟩
                  case measure => simp [intOf]; omega
          · have e1 : (nth l i != (m : Int)) = true := by simpa using hx
            have HX := Lib.hid hx
            have HS := Lib.hid (rowsAt_skip l m i hx)
            clear hx
            go_wp2_with fail
            go_roundw
            case rel => exact ⟨i + 1, last, code, by omega, by go_num, rfl, rfl, Lib.hid (last_skip HLS.out (by omega) (by have := HLL.out; omega) HX.out), by rw [HS.out]; exact HR, HB⟩
            case measure => simp [intOf]; omega
        · obtain rfl : i = n := by omega
          go_wp2_with fail
          go_roundw
          case rel => exact ⟨m + 1, last, code, by omega, by omega, by go_num, rfl, rfl, Lib.hid (fun h => last_next (HLL.out ▸ HLS.out) (by omega)), by rw [← rowsAt_next, HLL.out]; exact HR, HB⟩
          case measure => simp [intOf]; omega
    · obtain rfl : m = 16 := by omega
      have HR1 : Hid (RB wr g n (rowsF l)) := by rw [← rowsAt_all l HOK.out]; exact HR0
      go_wp2_with fail
      go_ret
      refine ⟨?_, HG.out ▸ HR1.out, HG.out ▸ HB0.out⟩
      rw [← HG.out]; rfl
end Go.Proofs.YtcblibefmclloaaDoor

set_option linter.unusedVariables false
set_option linter.unusedSimpArgs false
namespace Go.Proofs.YtcblibefmclloaaDoor
open Go.RowKit
theorem rows_short {l : List Int} (hok : l.all okLen = true) (j : Nat) : (rth (rowsF l) j).length ≤ 15 := by
  by_cases hj : j < l.length
  · by_cases h0 : 0 < (rth (rowsF l) j).length
    · obtain ⟨m, h1, h2, _, h4⟩ := row_len hok j hj h0
      rw [h4, msbF_len]; exact h2
    · omega
  · have : rth (rowsF l) j = [] := by
      unfold rth; simp [List.getD, List.getElem?_eq_none (show (rowsF l).length ≤ j by rw [rowsF_len]; omega)]
    rw [this]; simp
/-- Reading bits, whatever has gone wrong before. -/
def Took (w : World) (gh : Nat) (B : Option Addr) (M c q n : Nat) (E : Int) (bs : List Int) (e : Ending) (w' : World) : Prop :=
  ∃ (v : Int) (q' : Nat) (E' : Int), e = .returned (.int .i64 v) ∧ HB w' gh B M c q' E' ∧ Keeps [gh] w w' ∧ 0 ≤ v ∧ v < 256 ∧ q' ≤ M ∧
    ((E = 0 ∧ q + n ≤ M ∧ E' = 0 ∧ v = numB bs q n ∧ q' = q + n) ∨ ((E ≠ 0 ∨ M < q + n) ∧ E' = 10))
theorem htake3 (w : World) (gh : Nat) (B : Option Addr) (M c q n : Nat) (E : Int) (bs : List Int) (hb : HB w gh B M c q E) (hr : RI .u8 w B M (bitsP bs M)) (hE : E = 0 ∨ E = 10) (hn : n ≤ 8) (hq : q ≤ M) (hM : M ≤ 100000000) :
    Calls Tryd.prog 60 #[.pointer (some ⟨gh, 0, none⟩), .int .i64 n] w (Took w gh B M c q n E bs) := by
  obtain ⟨n0, n1⟩ := numB_lt bs q n
  have n2 := pow_le8 n hn
  rcases hE with rfl | rfl
  · by_cases hf : q + n ≤ M
    · refine (htake_ok w gh B M c q n bs hb hr hf (by omega) hM).mono ?_
      rintro e w' ⟨rfl, h1, h2⟩
      exact ⟨_, _, _, rfl, h1, h2, n0, by omega, hf, .inl ⟨rfl, hf, rfl, rfl, rfl⟩⟩
    · refine (htake_end w gh B M c q n hb (by omega) (by omega) hq hM).mono ?_
      rintro e w' ⟨rfl, h1, h2⟩
      exact ⟨_, _, _, rfl, h1, h2, by omega, by omega, hq, .inr ⟨.inr (by omega), rfl⟩⟩
  · refine (htake_bad w gh B M c q n 10 hb (by decide)).mono ?_
    rintro e w' ⟨rfl, h1, h2⟩
    exact ⟨_, _, _, rfl, h1, h2.mono (by simp), by omega, by omega, hq, .inr ⟨.inl (by decide), rfl⟩⟩
/-- One more code is read. -/
theorem codes_more {w wr w5 : World} {gh gc go M c q q' i p o : Nat} {B : Option Addr} {E E' v : Int} {bs cs : List Int}
    (hgn : Off [gh] B) (hgcB : Off [gc] B) (hgch : gc ≠ gh) (hgco : gc ≠ go) (hne : go ≠ gh) (hgc : w.heap.size ≤ gc) (hgh : w.heap.size ≤ gh) (hcl : cs.length = 19)
    (hcL : cL bs (p + 14) (i + 1) = (cL bs (p + 14) i).set o (numB bs (p + 14 + 3 * i) 3))
    (hI : (p + 14 + 3 * i ≤ M ∧ E = 0 ∧ q = p + 14 + 3 * i ∧ cs = cL bs (p + 14) i) ∨ (M < p + 14 + 3 * i ∧ E = 10))
    (hc : (E = 0 ∧ q + 3 ≤ M ∧ E' = 0 ∧ v = numB bs q 3 ∧ q' = q + 3) ∨ ((E ≠ 0 ∨ M < q + 3) ∧ E' = 10))
    (hC : Blk w5 gc 3 (ints .i64 cs)) (hH : HB w5 gh B M c q' E') (hR : RI .u8 wr B M (bitsP bs M)) (hO : Blk wr go 3 (ints .i64 orderL)) (hK : Keeps [] w wr) (hk5 : Keeps [gh] wr.drew w5) :
    (E' = 0 ∨ E' = 10) ∧ Hid ((p + 14 + 3 * (i + 1) ≤ M ∧ E' = 0 ∧ q' = p + 14 + 3 * (i + 1) ∧ cs.set o v = cL bs (p + 14) (i + 1)) ∨ (M < p + 14 + 3 * (i + 1) ∧ E' = 10)) ∧
    Hid (Blk (w5.setCell ⟨gc, o, none⟩ (.int .i64 v)) gc 3 (ints .i64 (cs.set o v))) ∧ Hid (HB (w5.setCell ⟨gc, o, none⟩ (.int .i64 v)) gh B M c q' E') ∧ Hid (RI .u8 (w5.setCell ⟨gc, o, none⟩ (.int .i64 v)) B M (bitsP bs M)) ∧
    Hid (Blk (w5.setCell ⟨gc, o, none⟩ (.int .i64 v)) go 3 (ints .i64 orderL)) ∧ Hid (Keeps [] w (w5.setCell ⟨gc, o, none⟩ (.int .i64 v))) := by
  have kd := (Keeps.refl [] wr).drew
  have ks : Keeps [gc] w5 (w5.setCell ⟨gc, o, none⟩ (.int .i64 v)) := (Keeps.refl [gc] w5).setCell (p := ⟨gc, o, none⟩) (Or.inl (by simp)) _
  refine ⟨by omega, Lib.hid ?_, Lib.hid ?_, Lib.hid (HB.keeps hH ks (by simpa using Ne.symm hgch)), Lib.hid (((hR.keeps kd (off_nil _)).keeps hk5 hgn).keeps ks hgcB), Lib.hid (((hO.keeps kd (by simp)).keeps hk5 (by simpa using hne)).keeps ks (by simpa using Ne.symm hgco)), Lib.hid (((hK.trans kd).then hk5 (fun x hx => Or.inr (by rw [List.mem_singleton.1 hx]; exact hgh))).setCell (p := ⟨gc, o, none⟩) (Or.inr hgc) _)⟩
  · rcases hI with ⟨a1, rfl, rfl, rfl⟩ | ⟨a1, rfl⟩
    · rcases hc with ⟨_, b1, rfl, rfl, rfl⟩ | ⟨b1, rfl⟩
      · exact .inl ⟨by omega, rfl, by omega, hcL.symm⟩
      · exact .inr ⟨by omega, rfl⟩
    · rcases hc with ⟨b0, _⟩ | ⟨_, rfl⟩
      · exact absurd b0 (by decide)
      · exact .inr ⟨by omega, rfl⟩
  · have := hC.set o (.int .i64 v)
    rwa [show (ints .i64 cs).set o (.int .i64 v) = ints .i64 (cs.set o v) by simp [ints, List.map_set]] at this
/-- What reading a head is to give. -/
def ReadV (w : World) (h : List Int × List Int × Nat × Int) (e : Ending) (w' : World) : Prop :=
  ∃ A1 c1 A2 c2, e = .returned (.tuple #[.slice A1 h.1.length c1, .slice A2 h.2.1.length c2, .int .i64 (h.2.2.1 : Nat), .int .i64 h.2.2.2]) ∧ RI .i64 w' A1 h.1.length h.1 ∧ RI .i64 w' A2 h.2.1.length h.2.1 ∧ Keeps [] w w'
theorem ri_nil (k : IntKind) (w : World) : RI k w none 0 [] := ⟨rfl, by omega, by simp⟩
theorem readV_err {w w' : World} {h : List Int × List Int × Nat × Int} {e : Int} (hh : h = ([], [], 0, e)) (hk : Keeps [] w w') : ReadV w h (.returned (.tuple #[.slice none 0 0, .slice none 0 0, .int .i64 0, .int .i64 e])) w' := by
  subst hh
  exact ⟨none, 0, none, 0, rfl, ri_nil _ _, ri_nil _ _, hk⟩
set_option maxRecDepth 100000 in
set_option maxHeartbeats 4000000 in
theorem refRead_calls (w : World) (B : Option Addr) (M c p : Nat) (bs : List Int) (hM : M = 8 * bs.length) (hr : RI .u8 w B M (bitsP bs M)) (hp : p ≤ M) (hMb : M ≤ 100000000) (hB : ∀ a, B = some a → a.block < w.heap.size) :
    Calls Tryd.prog 26 #[.slice B M c, .int .i64 p] w (ReadV w (headF bs p)) := by
  have HM := Lib.hid hM
  have HR := Lib.hid hr
  clear hM hr
  obtain ⟨go, hgo⟩ : ∃ x, x = w.heap.size := ⟨_, rfl⟩
  obtain ⟨gh, hgh⟩ : ∃ x, x = w.heap.size + 1 := ⟨_, rfl⟩
  obtain ⟨w0, hw0⟩ : ∃ w0, w0 = (w.alloc (.cells (ints .i64 orderL).toArray 3)).alloc (.cells #[.slice B M c, .int .i64 p, .int .i64 0] 86) := ⟨_, rfl⟩
  have hk0 : Keeps [] w w0 := by rw [hw0]; exact ((Keeps.refl [] w).alloc _).alloc _
  have HO0 : Hid (Blk w0 go 3 (ints .i64 orderL)) := by
    rw [hw0, hgo]
    exact Lib.hid ((blk_new w 3 (ints .i64 orderL)).keeps ((Keeps.refl [] _).alloc _) (by simp))
  have HH0 : Hid (HB w0 gh B M c p 0) := by
    rw [hw0, hgh]
    have := blk_new (w.alloc (.cells (ints .i64 orderL).toArray 3)) 86 [.slice B M c, .int .i64 p, .int .i64 0]
    exact Lib.hid (by simpa [HB] using this)
  have HR0 := Lib.hid (HR.out.keeps hk0 (off_nil _))
  have HK0 := Lib.hid hk0
  have HGO : Hid (w.heap.size ≤ go) := Lib.hid (by omega)
  have HGH : Hid (w.heap.size ≤ gh) := Lib.hid (by omega)
  have hne : go ≠ gh := by omega
  clear hk0
  go_enter Tryd.func26, Tryd.ntmps26
  go_wp2_with fail
  change Calls _ _ #[.pointer (some ⟨w.heap.size + 1, 0, none⟩), .int .i64 5] ((w.alloc (.cells (ints .i64 orderL).toArray 3)).alloc (.cells #[.slice B M c, .int .i64 p, .int .i64 0] 86)) _
  rw [← hw0, ← hgh, ← hgo]
  clear hw0 hgo hgh
  refine (htake3 _ _ _ _ _ p 5 0 bs HH0.out HR0.out (.inl rfl) (by omega) hp hMb).mono ?_
  rintro _ w1 ⟨v1, q1, E1, rfl, hh1, hk1, v10, v11, hq1, hc1⟩
  have hgn : Off [gh] B := by
    intro a ha hm
    have h1 := hB a ha
    have h2 := HGH.out
    rw [List.mem_singleton.1 hm] at h1
    omega
  have HR1 := Lib.hid (HR0.out.keeps hk1 hgn)
  have HO1 := Lib.hid (HO0.out.keeps hk1 (by simpa using hne))
  have HK1 := Lib.hid (HK0.out.then hk1 (fun x hx => Or.inr (by rw [List.mem_singleton.1 hx]; exact HGH.out)))
  have HH1 := Lib.hid hh1
  have hE1 : E1 = 0 ∨ E1 = 10 := by omega
  clear hh1 hk1 HR0 HO0 HK0 HH0
  go_wp2_with fail
  refine (htake3 _ _ _ _ _ q1 5 E1 bs HH1.out HR1.out hE1 (by omega) hq1 hMb).mono ?_
  rintro _ w2 ⟨v2, q2, E2, rfl, hh1, hk1, v20, v21, hq2, hc2⟩
  have HR2 := Lib.hid (HR1.out.keeps hk1 hgn)
  have HO2 := Lib.hid (HO1.out.keeps hk1 (by simpa using hne))
  have HK2 := Lib.hid (HK1.out.then hk1 (fun x hx => Or.inr (by rw [List.mem_singleton.1 hx]; exact HGH.out)))
  have HH2 := Lib.hid hh1
  have hE2 : E2 = 0 ∨ E2 = 10 := by omega
  clear hh1 hk1 HR1 HO1 HK1 HH1
  go_wp2_with fail
  refine (htake3 _ _ _ _ _ q2 4 E2 bs HH2.out HR2.out hE2 (by omega) hq2 hMb).mono ?_
  rintro _ w3 ⟨v3, q3, E3, rfl, hh1, hk1, v30, v31, hq3, hc3⟩
  have HR3 := Lib.hid (HR2.out.keeps hk1 hgn)
  have HO3 := Lib.hid (HO2.out.keeps hk1 (by simpa using hne))
  have HK3 := Lib.hid (HK2.out.then hk1 (fun x hx => Or.inr (by rw [List.mem_singleton.1 hx]; exact HGH.out)))
  have HH3 := Lib.hid hh1
  have HT : Hid ((p + 14 ≤ M ∧ E3 = 0 ∧ v1 = numB bs p 5 ∧ v2 = numB bs (p + 5) 5 ∧ v3 = numB bs (p + 10) 4 ∧ q3 = p + 14) ∨ (M < p + 14 ∧ E3 = 10)) := by
    rcases hc1 with ⟨_, a1, rfl, rfl, rfl⟩ | ⟨a1, rfl⟩
    · rcases hc2 with ⟨_, a2, rfl, rfl, rfl⟩ | ⟨a2, rfl⟩
      · rcases hc3 with ⟨_, a3, rfl, rfl, rfl⟩ | ⟨a3, rfl⟩
        · exact Lib.hid (.inl ⟨by omega, rfl, rfl, rfl, rfl, rfl⟩)
        · exact Lib.hid (.inr ⟨by omega, rfl⟩)
      · exact Lib.hid (.inr ⟨by omega, by omega⟩)
    · exact Lib.hid (.inr ⟨by omega, by omega⟩)
  clear hh1 hk1 HR2 HO2 HK2 HH2 hc1 hc2 hc3 hE1 hE2 hq1 hq2 hq3
  have h2 := Blk.cell HH3.out 2
  simp only [List.getElem?_cons_zero, List.getElem?_cons_succ] at h2
  rcases HT.out with ⟨hfit, rfl, hv1, hv2, hv3, rfl⟩ | ⟨hend, rfl⟩
  · clear HT
    have HV1 := Lib.hid hv1
    have HV2 := Lib.hid hv2
    have HV3 := Lib.hid hv3
    clear hv1 hv2 hv3
    by_cases hb1 : 286 < v1 + 257
    · have HRES : Hid (headF bs p = ([], [], 0, 40)) := Lib.hid (by unfold headF; rw [← HM.out, if_neg (by omega), if_pos (by left; have := HV1.out; omega)])
      have e1 : decide (286 < v1 + 257) = true := by simpa using hb1
      go_wp2_with fail
      exact bodyPost_ret (v := .tuple #[.slice none 0 0, .slice none 0 0, .int .i64 0, .int .i64 40]) (by simp [results, Tryd.results26, go_sem]) rfl (readV_err HRES.out HK3.out)
    have e1 : decide (286 < v1 + 257) = false := by simpa using hb1
    by_cases hb2 : 30 < v2 + 1
    · have HRES : Hid (headF bs p = ([], [], 0, 40)) := Lib.hid (by unfold headF; rw [← HM.out, if_neg (by omega), if_pos (by right; have := HV2.out; omega)])
      have e2 : decide (30 < v2 + 1) = true := by simpa using hb2
      go_wp2_with fail
      exact bodyPost_ret (v := .tuple #[.slice none 0 0, .slice none 0 0, .int .i64 0, .int .i64 40]) (by simp [results, Tryd.results26, go_sem]) rfl (readV_err HRES.out HK3.out)
    have e2 : decide (30 < v2 + 1) = false := by simpa using hb2
    have HNB : Hid (¬ (29 < numB bs p 5 ∨ 29 < numB bs (p + 5) 5)) := Lib.hid (by have := HV1.out; have := HV2.out; omega)
    obtain ⟨mn, hmn⟩ : ∃ mn, mn = manyF bs p := ⟨_, rfl⟩
    have hmn2 : v3 + 4 = (mn : Int) := by rw [hmn]; unfold manyF; rw [← HV3.out]; omega
    have hmn3 : mn ≤ 19 := by rw [hmn]; exact manyF_le bs p
    have HMN := Lib.hid hmn
    obtain ⟨lit, hlit⟩ : ∃ x, x = litF bs p := ⟨_, rfl⟩
    obtain ⟨dist, hdist⟩ : ∃ x, x = distF bs p := ⟨_, rfl⟩
    have hl2 : v1 + 257 = (lit : Int) := by rw [hlit]; unfold litF; rw [← HV1.out]; omega
    have hd2 : v2 + 1 = (dist : Int) := by rw [hdist]; unfold distF; rw [← HV2.out]; omega
    have hlb : lit ≤ 286 := by omega
    have hdb : dist ≤ 30 := by omega
    have hd1 : 1 ≤ dist := by omega
    have HLI := Lib.hid hlit
    have HDI := Lib.hid hdist
    clear hmn hlit hdist HV1 HV2 HV3
    have hmk := fun w => make_ints (P := Tryd.prog) w 22 3 .i64 8 Tryd.underlying22 info_int 19 19 rfl (by omega) (by omega)
    have e1' : decide (286 < (lit : Int)) = false := by simp; omega
    have e2' : decide (30 < (dist : Int)) = false := by simp; omega
    clear e1 e2 v10 v11 v20 v21 hb1 hb2
    go_upto_region 11 with (fail)
    obtain ⟨gc, hgc⟩ : ∃ x, x = w3.heap.size := ⟨_, rfl⟩
    obtain ⟨w4, hw4⟩ : ∃ x, x = w3.alloc (.cells (ints .i64 (List.replicate 19 0)).toArray 3) := ⟨_, rfl⟩
    have hk4 : Keeps [] w3 w4 := by rw [hw4]; exact (Keeps.refl [] w3).alloc _
    have HC4 : Hid (Blk w4 gc 3 (ints .i64 (cL bs (p + 14) 0))) := by rw [hw4, hgc]; exact Lib.hid (blk_new w3 _ _)
    have HH4 := Lib.hid (HB.keeps HH3.out hk4 (by simp))
    have HR4 := Lib.hid (HR3.out.keeps hk4 (off_nil _))
    have HO4 := Lib.hid (HO3.out.keeps hk4 (by simp))
    have HK4 := Lib.hid (HK3.out.trans hk4)
    have hgch : gc ≠ gh := by have := Blk.lt HH3.out; omega
    have hgco : gc ≠ go := by have := HO3.out.lt; omega
    have HGC : Hid (w.heap.size ≤ gc) := Lib.hid (by rw [hgc]; exact HK3.out.size)
    clear hk4 HH3 HR3 HO3 HK3 h2
    change Code.wp _ _ _ _ (w3.alloc (.cells (ints .i64 (List.replicate 19 0)).toArray 3))
    rw [← hw4, ← hgc]
    clear hw4 hgc hmk
    have hgcB : Off [gc] B := by
      intro a ha hm
      have h1 := hB a ha
      have h2 := HGC.out
      rw [List.mem_singleton.1 hm] at h1
      omega
    go_wp2_with fail
    go_loopw [14] (fun iv wr => ∃ (i q : Nat) (E : Int) (cs : List Int), i ≤ mn ∧ iv = .int .i64 i ∧ cs.length = 19 ∧ q ≤ M ∧ (E = 0 ∨ E = 10) ∧ Hid ((p + 14 + 3 * i ≤ M ∧ E = 0 ∧ q = p + 14 + 3 * i ∧ cs = cL bs (p + 14) i) ∨ (M < p + 14 + 3 * i ∧ E = 10)) ∧
      Hid (Blk wr gc 3 (ints .i64 cs)) ∧ Hid (HB wr gh B M c q E) ∧ Hid (RI .u8 wr B M (bitsP bs M)) ∧ Hid (Blk wr go 3 (ints .i64 orderL)) ∧ Hid (Keeps [] w wr)) (fun iv _ => mn - (intOf iv).toNat)
    case atStart => exact ⟨0, p + 14, 0, cL bs (p + 14) 0, by omega, rfl, cL_len _ _ _, hfit, .inl rfl, Lib.hid (.inl ⟨by omega, rfl, rfl, rfl⟩), HC4, HH4, HR4, HO4, HK4⟩
    case round =>
      clear HC4 HH4 HR4 HO4 HK4
      obtain ⟨i, q, E, cs, hi, rfl, hcl, hq, hE, HI, HC, HH, HRR, HO, HK⟩ := hrel
      by_cases hlt : i < mn
      · have e0 : decide (i < mn) = true := by simpa using hlt
        obtain ⟨o0, o1⟩ := order_lt i (by omega)
        have ho := HO.out.cell i
        rw [show (ints .i64 orderL)[i]? = some (.int .i64 (nth orderL i)) by rw [ints_getElem?]; simp [nth, List.getD, show i < orderL.length by show i < 19; omega]] at ho
        have HCL : Hid (cL bs (p + 14) (i + 1) = (cL bs (p + 14) i).set (nth orderL i).toNat (numB bs (p + 14 + 3 * i) 3)) := Lib.hid rfl
        obtain ⟨o, hoo⟩ : ∃ o : Nat, nth orderL i = o := ⟨(nth orderL i).toNat, by omega⟩
        rw [hoo] at ho o1 HCL
        rw [Int.toNat_natCast] at HCL
        have ho19 : o < 19 := by omega
        clear hoo o0 o1
        have s1 : (0 : Int) ≤ (o : Int) := by omega
        have s2 : (o : Int) < 19 := by omega
        have s3 : IntKind.i64.wrap (i : Int) = (i : Int) := IntWalk.i64_in _ (by omega)
        have s4 : IntKind.i64.wrap (o : Int) = (o : Int) := IntWalk.i64_in _ (by omega)
        have s5 : (0 : Int) ≤ (i : Int) := by omega
        have s6 : (i : Int) < 19 := by omega
        go_wp2_with fail
        go_region_with (first | (go_at_call 60; refine (htake3 _ gh B M c q 3 E bs (HB.keeps HH.out (Keeps.refl [] wr).drew (by simp)) (HRR.out.keeps (Keeps.refl [] wr).drew (off_nil _)) hE (by omega) hq hMb).mono ?_; rintro _ w5 ⟨v, q', E', rfl, hh5, hk5, hv0, hv1, hq', hc'⟩; have ho5 := hk5.cell (p := ⟨go, i, none⟩) (by simpa using hne) ((Keeps.refl [] wr).drew.cell (by simp) ho); have hb5 := (HC.out.keeps (Keeps.refl [] wr).drew (by simp)).keeps hk5 (by simpa using hgch); have hc5 := hb5.cell o; have hf5 := hb5.frozen o; rw [show (ints .i64 cs)[o]? = some (.int .i64 (nth cs o)) by rw [ints_getElem?]; simp [nth, List.getD, show o < cs.length by omega]] at hc5))
        all_goals (obtain ⟨hE', HI', HC', HH', HRR', HO', HK'⟩ := codes_more hgn hgcB hgch hgco hne HGC.out HGH.out hcl HCL.out HI.out hc' hb5 hh5 HRR.out HO.out HK.out hk5)
        all_goals clear hb5 hh5 hk5 hc5 hf5 ho5 hc' HI HC HH HRR HO HK ho
        all_goals go_wp2_with fail
        all_goals go_roundw
        all_goals first
          | exact ⟨i + 1, q', E', cs.set o v, by omega, by go_num, by rw [List.length_set]; exact hcl, hq', hE', HI', HC', HH', HRR', HO', HK'⟩
          | (simp [intOf]; omega)
      · obtain rfl : i = mn := by omega
        have e0 : decide (i < i) = false := by simp
        have h2 := Blk.cell HH.out 2
        simp only [List.getElem?_cons_zero, List.getElem?_cons_succ] at h2
        rcases HI.out with ⟨hf3, rfl, rfl, rfl⟩ | ⟨hend, rfl⟩
        · clear HI
          obtain ⟨cd, hcd⟩ : ∃ cd, cd = cL bs (p + 14) i := ⟨_, rfl⟩
          have hcl' : cd.length = 19 := by rw [hcd]; exact cL_len _ _ _
          have HCD : Hid (cd = codesH bs p) := Lib.hid (by rw [hcd]; unfold codesH; rw [← HMN.out])
          rw [← hcd] at HC
          have HCR : Hid (RI .i64 wr (some ⟨gc, 0, none⟩) 19 cd) := Lib.hid (by
            have := Blk.ri (xs := cd) (ys := []) (by rw [List.append_nil]; exact HC.out)
            rwa [hcl'] at this)
          have HF3 : Hid (¬ (8 * bs.length < p + 14 + 3 * manyF bs p)) := Lib.hid (by rw [← HM.out, ← HMN.out]; omega)
          have HQ : Hid (p + 14 + 3 * i = p + 14 + 3 * manyF bs p) := Lib.hid (by rw [← HMN.out])
          clear hcd HC HO hcl
          obtain ⟨wc, hwc⟩ : ∃ x : World, x = wr := ⟨_, rfl⟩
          rw [← hwc] at HH HRR HK HCR h2 ⊢
          clear hwc
          go_wp2_with fail
          clear h2
          refine (refCheck_calls _ _ _ _ cd HCR.out (by omega)).mono ?_
          rintro _ w6 ⟨rfl, hd6⟩
          have hk6 := hd6.keeps (S := [])
          have HH6 := Lib.hid (HB.keeps HH.out hk6 (by simp))
          have HR6 := Lib.hid (HRR.out.keeps hk6 (off_nil _))
          have HC6 := Lib.hid (HCR.out.keeps hk6 (off_nil _))
          have HK6 := Lib.hid (HK.out.trans hk6)
          clear hd6 hk6 HH HRR HCR HK
          by_cases hck : checkF cd = 0
          · have HCK := Lib.hid hck
            have HOK := Lib.hid (check_ok hck).2
            have HSH := Lib.hid (rows_short HOK.out)
            have e3 : (checkF cd != 0) = false := by simp [hck]
            clear hck
            go_wp2_with fail
            refine (rows_calls _ _ _ _ cd HC6.out (by omega) HOK.out).mono ?_
            rintro _ w7 ⟨rfl, hrb, hb7⟩
            obtain ⟨gr, hgr⟩ : ∃ x, x = w6.heap.size := ⟨_, rfl⟩
            have hk7 := Keeps.of_below hb7 (S := [])
            rw [← hgr] at hrb ⊢
            have hghr : gh < gr := by have := Blk.lt HH6.out; omega
            have HH7 := Lib.hid (HB.keeps HH6.out hk7 (by simp))
            have HR7 := Lib.hid (HR6.out.keeps hk7 (off_nil _))
            have HK7 := Lib.hid (HK6.out.trans hk7)
            have HRB7 := Lib.hid hrb
            clear hrb hb7 hk7 hgr HH6 HR6 HC6 HK6
            obtain ⟨N, hN⟩ : ∃ N, N = lit + dist := ⟨_, rfl⟩
            have HRR0 : Hid (readR bs p = stepsF cd bs N N [] (p + 14 + 3 * i)) := Lib.hid (by
              unfold readR
              rw [← HCD.out, HQ.out, hN, HLI.out, HDI.out])
            have hNb : N ≤ 316 := by omega
            have hN3 : IntKind.i64.wrap ((lit : Int) + (dist : Int)) = (N : Int) := by rw [show (lit : Int) + (dist : Int) = (N : Int) by omega]; exact IntWalk.i64_in _ (by omega)
            have hLN : lit < N := by omega
            clear hN
            have hpi : p ≤ p + 14 + 3 * i := by omega
            have HE1 : Hid (∀ e, (readR bs p).2.2 = e → e ≠ 0 → headF bs p = ([], [], 0, e)) := Lib.hid (fun e h he => head_err (by have := HM.out; omega) HNB.out HF3.out (by rw [← HCD.out]; exact HCK.out) h he)
            have HE2 : Hid (∀ l q, readR bs p = (l, q, 0) → headF bs p = (l.take lit, l.drop lit, q - p, 0)) := Lib.hid (fun l q h => by rw [HLI.out]; exact head_ok (by have := HM.out; omega) HNB.out HF3.out (by rw [← HCD.out]; exact HCK.out) h)
            clear e1' e2' hl2 hd2 HF3 HQ HCD HLI HDI HNB HMN
            go_wp2_with fail
            go_loopw [17] (fun lv wr => ∃ (f q len cc : Nat) (l : List Int) (A : Option Addr), lv = .slice A len cc ∧ len ≤ N ∧ N ≤ len + f ∧ p ≤ q ∧ q ≤ M ∧ Hid (readR bs p = stepsF cd bs N f l q) ∧ Hid (wr.ownsRow (gr + 1) 3 1 (.slice A len cc) len (ints .i64 l)) ∧
              Hid (HB wr gh B M c q 0) ∧ Hid (RI .u8 wr B M (bitsP bs M)) ∧ Hid (RB wr gr 19 (rowsF cd)) ∧ Hid (Keeps [] w wr)) (fun lv _ => N - sLen lv)
            case atStart => exact ⟨N, p + 14 + 3 * i, 0, 0, [], none, rfl, by omega, by omega, hpi, hf3, HRR0, Lib.hid (World.ownsRow_nil _ _ _ _), HH7, HR7, HRB7, HK7⟩
            case round =>
              clear HRR0 HH7 HR7 HRB7 HK7
              obtain ⟨f, q, len, cc, l, A, rfl, hlen, hf, hpq, hqM, HRD, HLO, HH, HRR, HRB, HK⟩ := hrel
              by_cases hlt2 : len < N
              · have e4 : decide ((len : Int) < (N : Int)) = true := by simp; omega
                have HLEN : Hid (l.length = len) := Lib.hid (by have := HLO.out.1; simpa [ints] using this)
                obtain ⟨f', rfl⟩ : ∃ f', f = f' + 1 := ⟨f - 1, by omega⟩
                have HUN : Hid (readR bs p = if (decF cd bs q).2.1 ≠ 0 then ([], q, (decF cd bs q).2.1)
                    else if M < q + (decF cd bs q).2.2 + wN (decF cd bs q).1 then ([], q, 10)
                    else match addF l (decF cd bs q).1 (numB bs (q + (decF cd bs q).2.2) (wN (decF cd bs q).1)) N with
                      | none => ([], q, 41)
                      | some l' => stepsF cd bs N f' l' (q + (decF cd bs q).2.2 + wN (decF cd bs q).1)) := Lib.hid (by
                  rw [HRD.out, stepsF, if_neg (by rw [HLEN.out]; omega), ← HM.out]
                  rfl)
                clear HRD
                obtain ⟨wl, hwl⟩ : ∃ x : World, x = wr := ⟨_, rfl⟩
                rw [← hwl] at HLO HH HRR HRB HK ⊢
                clear hwl
                go_wp2_with fail
                refine (step_calls wl gh gr B M c q bs cd HM.out HH.out HRR.out HRB.out HCK.out hcl' HSH.out hqM hMb hgn (by intro x hx; rw [List.mem_singleton.1 hx]; exact Or.inl hghr)).mono ?_
                rintro _ w8 ⟨sy, ex, q2, E2, rfl, hh8, hk8, hs1, hs2⟩
                have hg8 : ∀ x ∈ [gh], x < gr ∨ wl.heap.size ≤ x := by intro x hx; rw [List.mem_singleton.1 hx]; exact Or.inl hghr
                have HH8 := Lib.hid hh8
                have HR8 := Lib.hid (HRR.out.keeps hk8 hgn)
                have HRB8 := Lib.hid (HRB.out.keeps hk8 hg8)
                have HLO8 := Lib.hid (own_keeps HLO.out hk8 (fun x hx hm => by have := (HLO.out.lt x hx).1; rw [List.mem_singleton.1 hm] at this; omega))
                have HK8 := Lib.hid (HK.out.then hk8 (fun x hx => Or.inr (by rw [List.mem_singleton.1 hx]; exact HGH.out)))
                have h2 := Blk.cell hh8 2
                simp only [List.getElem?_cons_zero, List.getElem?_cons_succ] at h2
                have hg8lt : gh < w8.heap.size := Blk.lt hh8
                have hgr8 : gr < w8.heap.size := HRB8.out.lt
                have hn8 : gh ≠ w8.heap.size := by omega
                have hn8' : w8.heap.size ≠ gh := by omega
                have hw8 : w.heap.size ≤ w8.heap.size := HK8.out.size
                clear hh8 hk8 hg8 HH HRR HRB HLO HK
                have HBD := Lib.hid (dec_bd cd bs q (by rw [← HM.out]; exact hqM))
                generalize decF cd bs q = d at *
                obtain ⟨sy0, er, k⟩ := d
                simp only [] at hs1 hs2 HBD HUN
                by_cases her : er = 0
                · subst her
                  have hs2' := hs2 rfl
                  clear hs1 hs2
                  by_cases hov : M < q + k + wN sy0
                  · rw [if_pos hov] at hs2'
                    subst hs2'
                    have HRES := Lib.hid (HE1.out 10 (by rw [HUN.out, if_neg (by simp), if_pos hov]) (by decide))
                    clear HUN HBD
                    go_wp2_with fail
                    go_quiet (fail)
                    go_wp2_with fail
                    exact bodyPost_ret (v := .tuple #[.slice none 0 0, .slice none 0 0, .int .i64 0, .int .i64 10]) (by simp [results, Tryd.results26, go_sem]) rfl (readV_err HRES.out ((HK8.out.alloc _).drewN _))
                  · rw [if_neg hov] at hs2'
                    obtain ⟨rfl, rfl, rfl, rfl⟩ := hs2'
                    have HUN2 : Hid (readR bs p = match addF l sy (numB bs (q + k) (wN sy)) N with
                      | none => ([], q, 41)
                      | some l' => stepsF cd bs N f' l' (q + k + wN sy)) := Lib.hid (by rw [HUN.out, if_neg (by simp), if_neg hov])
                    clear HUN
                    generalize numB bs (q + k) (wN sy) = ex at *
                    generalize hqq : q + k + wN sy = q2 at *
                    have hq2 : q2 ≤ M := by omega
                    have hpq2 : p ≤ q2 := by omega
                    obtain ⟨gs, hgs⟩ : ∃ x, x = w8.heap.size := ⟨_, rfl⟩
                    obtain ⟨w9, hw9⟩ : ∃ x, x = w8.alloc (.cells #[.int .i64 sy, .int .i64 ex] 31) := ⟨_, rfl⟩
                    have hk9 : Keeps [] w8 w9 := by rw [hw9]; exact (Keeps.refl [] w8).alloc _
                    have hB9 : Blk w9 gs 31 [.int .i64 sy, .int .i64 ex] := by
                      rw [hw9, hgs]
                      exact blk_new w8 31 [.int .i64 sy, .int .i64 ex]
                    have HH9 := Lib.hid (HB.keeps HH8.out hk9 (by simp))
                    have HR9 := Lib.hid (HR8.out.keeps hk9 (off_nil _))
                    have HRB9 := Lib.hid (HRB8.out.keeps hk9 (by simp))
                    have HLO9 := Lib.hid (own_keeps HLO8.out hk9 (by simp))
                    have HK9 := Lib.hid (HK8.out.trans hk9)
                    obtain ⟨A9, c9, hv9, hri9, hcap9, hnil9, hpl9, -⟩ := own_full HLO9.out
                    injection hv9 with hv1 hv2 hv3
                    subst hv1
                    subst hv3
                    have hri8 : RI .i64 w8 A len l := by
                      obtain ⟨_, _, hv9, hri, -⟩ := own_full HLO8.out
                      injection hv9 with hv1 hv2 hv3
                      rw [hv1]; exact hri
                    have k0 := hB9.cell 0
                    have k1 := hB9.cell 1
                    simp only [List.getElem?_cons_zero, List.getElem?_cons_succ] at k0 k1
                    have HRI9 := Lib.hid hri9
                    have HN9 := Lib.hid hnil9
                    have HP9 := Lib.hid hpl9
                    clear hri9 hnil9 hpl9 hri8 hk9 hB9 HH8 HR8 HRB8 HLO8 HK8 HBD hov
                    go_upto_region 26 with (fail)
                    rw [← hgs, ← hw9]
                    clear hgs hw9 h2 hn8 hn8' hg8lt
                    go_wp2_with fail
                    refine (with_calls w9 len cc A l sy ex N HRI9.out (by omega) HN9.out HP9.out).mono ?_
                    intro e w10 hv
                    cases haf : addF l sy ex N with
                    | none =>
                      rw [haf] at hv
                      obtain ⟨rfl, hb10⟩ := hv
                      have HRES := Lib.hid (HE1.out 41 (by rw [HUN2.out, haf]) (by decide))
                      go_wp2_with fail
                      exact bodyPost_ret (v := .tuple #[.slice none 0 0, .slice none 0 0, .int .i64 0, .int .i64 41]) (by simp [results, Tryd.results26, go_sem]) rfl (readV_err HRES.out (HK9.out.trans (Keeps.of_below hb10)))
                    | some l' =>
                      rw [haf] at hv
                      obtain ⟨v10, rfl, ho10, hb10⟩ := hv
                      obtain ⟨g1, g2, -⟩ := addF_grows haf
                      have hk10 := Keeps.of_below hb10 (S := [])
                      obtain ⟨A10, c10, rfl, -⟩ := own_full ho10
                      have HRD10 : Hid (readR bs p = stepsF cd bs N f' l' q2) := Lib.hid (by rw [HUN2.out, haf])
                      have HLO10 := Lib.hid (ho10.mono (show gr + 1 ≤ w9.heap.size from HRB9.out.lt))
                      have HH10 := Lib.hid (HB.keeps HH9.out hk10 (by simp))
                      have HR10 := Lib.hid (HR9.out.keeps hk10 (off_nil _))
                      have HRB10 := Lib.hid (HRB9.out.keeps hk10 (by simp))
                      have HK10 := Lib.hid (HK9.out.trans hk10)
                      have hlen' := HLEN.out
                      clear ho10 hb10 hk10 HLO9 HH9 HR9 HRB9 HK9 HRI9 HN9 HP9 HUN2
                      go_wp2_with fail
                      go_roundw
                      case rel => exact ⟨f', q2, l'.length, c10, l', A10, rfl, by omega, by omega, hpq2, hq2, HRD10, HLO10, HH10, HR10, HRB10, HK10⟩
                      case measure => simp [sLen]; omega
                · have hs1' := hs1 her
                  subst hs1'
                  have HRES := Lib.hid (HE1.out E2 (by rw [HUN.out, if_pos her]) her)
                  clear hs1 hs2 HUN HBD
                  have e5 : (E2 != 0) = true := by simpa using her
                  go_wp2_with fail
                  go_quiet (fail)
                  go_wp2_with fail
                  exact bodyPost_ret (v := .tuple #[.slice none 0 0, .slice none 0 0, .int .i64 0, .int .i64 E2]) (by simp [results, Tryd.results26, go_sem]) rfl (readV_err HRES.out ((HK8.out.alloc _).drewN _))
              · obtain rfl : len = N := by omega
                have e4 : decide ((len : Int) < (len : Int)) = false := by simp
                have HLEN : Hid (l.length = len) := Lib.hid (by have := HLO.out.1; simpa [ints] using this)
                have HRES := Lib.hid (HE2.out l q (by rw [HRD.out, stepsF_done _ _ _ _ _ _ (by rw [HLEN.out]; omega)]))
                obtain ⟨A9, c9, hv9, hri9, hcap9, -⟩ := own_full HLO.out
                injection hv9 with hv1 hv2 hv3
                subst hv1
                subst hv3
                obtain ⟨ab, ao, rfl⟩ := hri9.hd (by omega)
                have HRI := Lib.hid hri9
                have h1 := Blk.cell HH.out 1
                simp only [List.getElem?_cons_zero, List.getElem?_cons_succ] at h1
                have t1 : IntKind.i64.wrap ((q : Int) - (p : Int)) = ((q - p : Nat) : Int) := by rw [show (q : Int) - (p : Int) = ((q - p : Nat) : Int) by omega]; exact IntWalk.i64_in _ (by omega)
                have t2 : (0 : Int) ≤ (lit : Int) := by omega
                have t3 : (lit : Int) ≤ (len : Int) := by omega
                have t4 : (lit : Int) ≤ (cc : Int) := by omega
                have t5 : lit ≤ len := by omega
                have t6 : lit ≤ cc := by omega
                have t7 : ¬ cc = lit := by omega
                have t8 : ¬ lit = cc := by omega
                clear HRD hri9 hv2
                go_wp2_with fail
                go_quiet (fail)
                go_wp2_with fail
                have hl1 : (l.take lit).length = lit := by rw [List.length_take, HLEN.out]; omega
                have hl2' : (l.drop lit).length = len - lit := by rw [List.length_drop, HLEN.out]
                have hr1 := (HRI.out.take t5).keeps ((Keeps.refl [] wr).drewN nq) (off_nil _)
                have hr2 : RI .i64 (wr.drewN nq) (some ⟨ab, ao + lit, none⟩) (len - lit) (l.drop lit) := ⟨hl2', fun _ => ⟨_, _, rfl⟩, fun b' o' ha j hj => by
                  injection ha with ha; injection ha with h1 h2 h3; subst h1; subst h2
                  have := (HRI.out.keeps ((Keeps.refl [] wr).drewN nq) (off_nil _)).cell ab ao rfl (lit + j) (by omega)
                  rw [show ao + lit + j = ao + (lit + j) by omega, this]
                  simp [nth, List.getD]⟩
                refine bodyPost_ret (v := .tuple #[.slice (some ⟨ab, ao, none⟩) lit cc, .slice (some ⟨ab, ao + lit, none⟩) (len - lit) (cc - lit), .int .i64 ((q - p : Nat) : Int), .int .i64 0]) (by simp [results, Tryd.results26, go_sem]) rfl ?_
                rw [HRES.out]
                exact ⟨_, _, _, _, by rw [hl1, hl2'], by rw [hl1]; exact hr1, by rw [hl2']; exact hr2, HK.out.drewN _⟩
          · have HRES : Hid (headF bs p = ([], [], 0, checkF cd)) := Lib.hid (by unfold headF; rw [← HM.out, if_neg (by omega), if_neg HNB.out, HM.out, if_neg HF3.out, ← HCD.out, if_pos hck])
            have e3 : (checkF cd != 0) = true := by simpa using hck
            generalize checkF cd = er at *
            go_wp2_with fail
            exact bodyPost_ret (v := .tuple #[.slice none 0 0, .slice none 0 0, .int .i64 0, .int .i64 er]) (by simp [results, Tryd.results26, go_sem]) rfl (readV_err HRES.out HK6.out)
        · have HRES : Hid (headF bs p = ([], [], 0, 10)) := Lib.hid (by unfold headF; rw [← HM.out, if_neg (by omega), if_neg HNB.out, ← HMN.out, if_pos hend])
          clear HI
          go_wp2_with fail
          go_quiet (fail)
          go_wp2_with fail
          exact bodyPost_ret (v := .tuple #[.slice none 0 0, .slice none 0 0, .int .i64 0, .int .i64 10]) (by simp [results, Tryd.results26, go_sem]) rfl (readV_err HRES.out (HK.out.drewN _))
  · have HRES : Hid (headF bs p = ([], [], 0, 10)) := Lib.hid (by unfold headF; rw [← HM.out, if_pos hend])
    clear HT
    go_wp2_with fail
    go_quiet (fail)
    go_wp2_with fail
    exact bodyPost_ret (v := .tuple #[.slice none 0 0, .slice none 0 0, .int .i64 0, .int .i64 10]) (by simp [results, Tryd.results26, go_sem]) rfl (readV_err HRES.out (HK3.out.drewN _))
end Go.Proofs.YtcblibefmclloaaDoor

set_option linter.unusedVariables false
set_option linter.unusedSimpArgs false
namespace Go.Proofs.YtcblibefmclloaaDoor
open Go.RowKit
theorem blk_pt {w w' : World} {g k : Nat} {t : TypeId} {cs : List Value} (ht : t ≠ 5) (hk : k ≠ g) (h : Blk w k t cs) (hp : PT g w w') : Blk w' k t cs := by
  refine (hp.same k h.lt hk (fun ⟨c, f, hc⟩ => ?_)).trans h
  have h2 : w.heap[k]? = _ := h
  rw [h2] at hc
  injection hc with hc
  injection hc with _ h3 _
  exact ht h3
theorem mayW_iff (lit dist : List Int) : MayW lit dist ↔ (257 ≤ lit.length ∧ lit.length ≤ 286 ∧ 1 ≤ dist.length ∧ dist.length ≤ 30 ∧ anyBad lit = false ∧ anyBad dist = false) :=
  ⟨fun h => ⟨h.lit0, h.lit1, h.dist0, h.dist1, any_false h.litB, any_false h.distB⟩, fun ⟨a, b, c, d, e, f⟩ => ⟨a, b, c, d, any_range e, any_range f⟩⟩
set_option maxRecDepth 100000 in
set_option maxHeartbeats 1000000 in
theorem may_calls (w : World) (A1 A2 : Option Addr) (n1 n2 c1 c2 : Nat) (lit dist : List Int) (hx : RI .i64 w A1 n1 lit) (hy : RI .i64 w A2 n2 dist) :
    Calls Tryd.prog 50 #[.slice A1 n1 c1, .slice A2 n2 c2] w fun e w' => ∃ b, e = .returned (.bool b) ∧ (b = true ↔ MayW lit dist) ∧ Dr w w' := by
  have HX := Lib.hid hx
  have HY := Lib.hid hy
  have HM : Hid (MayW lit dist ↔ (257 ≤ n1 ∧ n1 ≤ 286 ∧ 1 ≤ n2 ∧ n2 ≤ 30 ∧ anyBad lit = false ∧ anyBad dist = false)) := Lib.hid (by have := mayW_iff lit dist; rwa [hx.len, hy.len] at this)
  clear hx hy
  go_enter Tryd.func50, Tryd.ntmps50
  by_cases h1 : 257 ≤ n1
  case neg =>
    have e1 : decide (257 ≤ n1) = false := by simpa using h1
    have e1' : decide ((257 : Int) ≤ (n1 : Int)) = false := by simp; omega
    go_wp2_with fail
    go_ret
    exact ⟨false, rfl, ⟨(fun h => by cases h), fun h => absurd (HM.out.1 h).1 h1⟩, 0, rfl⟩
  have e1 : decide (257 ≤ n1) = true := by simpa using h1
  have e1' : decide ((257 : Int) ≤ (n1 : Int)) = true := by simp; omega
  by_cases h2 : n1 ≤ 286
  case neg =>
    have e2 : decide (n1 ≤ 286) = false := by simpa using h2
    have e2' : decide ((n1 : Int) ≤ 286) = false := by simp; omega
    go_wp2_with fail
    go_ret
    exact ⟨false, rfl, ⟨(fun h => by cases h), fun h => absurd (HM.out.1 h).2.1 h2⟩, 0, rfl⟩
  have e2 : decide (n1 ≤ 286) = true := by simpa using h2
  have e2' : decide ((n1 : Int) ≤ 286) = true := by simp; omega
  by_cases h3 : 1 ≤ n2
  case neg =>
    have e3 : decide (1 ≤ n2) = false := by simpa using h3
    have e3' : decide ((1 : Int) ≤ (n2 : Int)) = false := by simp; omega
    have e3'' : n2 = 0 := by omega
    go_wp2_with fail
    go_ret
    exact ⟨false, rfl, ⟨(fun h => by cases h), fun h => absurd (HM.out.1 h).2.2.1 h3⟩, 0, rfl⟩
  have e3 : decide (1 ≤ n2) = true := by simpa using h3
  have e3' : decide ((1 : Int) ≤ (n2 : Int)) = true := by simp; omega
  by_cases h4 : n2 ≤ 30
  case neg =>
    have e4 : decide (n2 ≤ 30) = false := by simpa using h4
    have e4' : decide ((n2 : Int) ≤ 30) = false := by simp; omega
    go_wp2_with fail
    go_ret
    exact ⟨false, rfl, ⟨(fun h => by cases h), fun h => absurd (HM.out.1 h).2.2.2.1 h4⟩, 0, rfl⟩
  have e4 : decide (n2 ≤ 30) = true := by simpa using h4
  have e4' : decide ((n2 : Int) ≤ 30) = true := by simp; omega
  go_wp2_with fail
  refine (refLengths_calls _ _ _ _ lit HX.out (by omega)).mono ?_
  rintro _ wa ⟨rfl, hd1⟩
  have K1 := Lib.hid (hd1.keeps (S := []))
  have D1 := Lib.hid hd1
  clear hd1
  cases hb1 : anyBad lit with
  | true =>
    have HB1 := Lib.hid hb1
    clear hb1
    go_wp2_with fail
    go_ret
    exact ⟨false, rfl, ⟨(fun h => by cases h), fun h => by have := (HM.out.1 h).2.2.2.2.1; rw [HB1.out] at this; cases this⟩, D1.out⟩
  | false =>
    have HB1 := Lib.hid hb1
    clear hb1
    go_wp2_with fail
    refine (refLengths_calls _ _ _ _ dist (HY.out.keeps K1.out (off_nil _)) (by omega)).mono ?_
    rintro _ wb ⟨rfl, hd1⟩
    have D2 := Lib.hid (D1.out.trans hd1)
    clear hd1 K1
    go_wp2_with fail
    go_ret
    refine ⟨!anyBad dist, rfl, ⟨fun h => HM.out.2 ⟨h1, h2, h3, h4, HB1.out, by simpa using h⟩, fun h => by rw [(HM.out.1 h).2.2.2.2.2]; rfl⟩, D2.out⟩
set_option maxRecDepth 100000 in
set_option maxHeartbeats 400000 in
theorem writerLen_calls (w : World) (g : Nat) (bl : List Int) (hw : Wtr w g bl) :
    Calls Tryd.prog 51 #[.pointer (some ⟨g, 0, none⟩)] w fun e w' => e = .returned (.int .i64 bl.length) ∧ Dr w w' := by
  obtain ⟨xs, v, n, hn, hblk, hown, hwb⟩ := hw
  have h1 := hblk.cell 1
  simp only [List.getElem?_cons_succ, List.getElem?_cons_zero] at h1
  clear hown hwb hblk hn
  go_enter Tryd.func51, Tryd.ntmps51
  go_wp2_with fail
  go_ret
  exact ⟨rfl, 0, rfl⟩
/-- Bits in turn. -/
def altB (k : Nat) : List Int := (List.range k).map fun (i : Nat) => (i : Int) % 2
theorem altB_len (k : Nat) : (altB k).length = k := by simp [altB]
theorem altB_succ (k : Nat) : altB (k + 1) = altB k ++ vbits ((k : Int) % 2) 1 := by
  unfold altB
  rw [List.range_succ, List.map_append]
  congr 1
  show [(k : Int) % 2] = [((k : Int) % 2) / 2 ^ 0 % 2]
  rw [Int.pow_zero, Int.ediv_one]
  congr 1
  omega
theorem altB_nth (k i : Nat) (h : i < k) : nth (altB k) i = (i : Int) % 2 := by simp [altB, nth, List.getD, h]
set_option maxRecDepth 100000 in
set_option maxHeartbeats 1000000 in
theorem writes_awake (w : World) (A1 A2 : Option Addr) (n1 n2 c1 c2 : Nat) (k : Int) (hT : Tabs w) (h : 1048576 < n1 ∨ 1048576 < n2 ∨ k < 0 ∨ 100 < k) :
    Calls Tryd.prog 14 #[.slice A1 n1 c1, .slice A2 n2 c2, .int .i64 k] w fun e w' => e = .returned (.bool true) ∧ Keeps [] w w' := by
  have HT := Lib.hid hT
  have HH := Lib.hid h
  clear hT h
  go_enter Tryd.func14, Tryd.ntmps14
  by_cases b1 : 1048576 < n1
  · have e1 : decide (1048576 < n1) = true := by simpa using b1
    have e1' : decide ((1048576 : Int) < (n1 : Int)) = true := by simp; omega
    go_wp2_with fail
    refine (awake_calls _ HT.out).mono ?_
    rintro e w' ⟨rfl, hk⟩
    have HK := Lib.hid hk
    clear hk
    go_wp2_with fail
    go_ret
    exact ⟨rfl, HK.out⟩
  have e1 : decide (1048576 < n1) = false := by simpa using b1
  have e1' : decide ((1048576 : Int) < (n1 : Int)) = false := by simp; omega
  by_cases b2 : 1048576 < n2
  · have e2 : decide (1048576 < n2) = true := by simpa using b2
    have e2' : decide ((1048576 : Int) < (n2 : Int)) = true := by simp; omega
    go_wp2_with fail
    refine (awake_calls _ HT.out).mono ?_
    rintro e w' ⟨rfl, hk⟩
    have HK := Lib.hid hk
    clear hk
    go_wp2_with fail
    go_ret
    exact ⟨rfl, HK.out⟩
  have e2 : decide (1048576 < n2) = false := by simpa using b2
  have e2' : decide ((1048576 : Int) < (n2 : Int)) = false := by simp; omega
  by_cases b3 : k < 0
  · have e3 : decide (k < 0) = true := by simpa using b3
    go_wp2_with fail
    refine (awake_calls _ HT.out).mono ?_
    rintro e w' ⟨rfl, hk⟩
    have HK := Lib.hid hk
    clear hk
    go_wp2_with fail
    go_ret
    exact ⟨rfl, HK.out⟩
  have e3 : decide (k < 0) = false := by simpa using b3
  have e4 : decide (100 < k) = true := by have := HH.out; simp; omega
  go_wp2_with fail
  refine (awake_calls _ HT.out).mono ?_
  rintro e w' ⟨rfl, hk⟩
  have HK := Lib.hid hk
  clear hk
  go_wp2_with fail
  go_ret
  exact ⟨rfl, HK.out⟩
set_option maxRecDepth 100000 in
set_option maxHeartbeats 4000000 in
theorem writes_main (w : World) (A1 A2 : Option Addr) (n1 n2 c1 c2 : Nat) (lit dist : List Int) (k : Nat) (hT : Tabs w)
    (h1 : RI .i64 w A1 n1 lit) (h2 : RI .i64 w A2 n2 dist) (hn1 : n1 ≤ 1048576) (hn2 : n2 ≤ 1048576) (hk : k ≤ 100) :
    Calls Tryd.prog 14 #[.slice A1 n1 c1, .slice A2 n2 c2, .int .i64 k] w fun e w' => e = .returned (.bool true) ∧ Keeps [] w w' := by
  have HT := Lib.hid hT
  have H1 := Lib.hid h1
  have H2 := Lib.hid h2
  have HL1 : Hid (lit.length = n1) := Lib.hid h1.len
  have HL2 : Hid (dist.length = n2) := Lib.hid h2.len
  clear hT h1 h2
  have e1 : decide (1048576 < n1) = false := by simp; omega
  have e1' : decide ((1048576 : Int) < (n1 : Int)) = false := by simp; omega
  have e2 : decide (1048576 < n2) = false := by simp; omega
  have e2' : decide ((1048576 : Int) < (n2 : Int)) = false := by simp; omega
  have e3 : decide ((k : Int) < 0) = false := by simp
  have e4 : decide (100 < k) = false := by simp; omega
  have e4' : decide ((100 : Int) < (k : Int)) = false := by simp; omega
  obtain ⟨g, hg⟩ : ∃ x, x = w.heap.size := ⟨_, rfl⟩
  go_enter Tryd.func14, Tryd.ntmps14
  go_wp2_with fail
  refine (newWriter_calls _).mono ?_
  rintro _ w1 ⟨rfl, hw1, hb1⟩
  rw [← hg] at hw1 hb1 ⊢
  have HW1 := Lib.hid hw1
  have HB1 := Lib.hid hb1
  have hgt : gtop ≤ g := by rw [hg]; exact HT.out.size
  have HG := Lib.hid hg
  clear hw1 hb1 e1 e1' e2 e2' e3 e4 e4' hg
  go_wp2_with fail
  go_loopw [8] (fun iv wr => ∃ i : Nat, i ≤ k ∧ iv = .int .i64 i ∧ Hid (Wtr wr g (altB i)) ∧ Hid (Below g w wr)) (fun iv _ => k - (intOf iv).toNat)
  case atStart => exact ⟨0, by omega, rfl, HW1, HB1⟩
  case round =>
    clear HW1 HB1
    obtain ⟨i, hi, rfl, HW, HB⟩ := hrel
    by_cases hlt : i < k
    · have e5 : decide (i < k) = true := by simpa using hlt
      have t1 : ((i : Int)).tmod 2 = ((i : Int) % 2) := Int.tmod_eq_emod_of_nonneg (by omega)
      have HAB := Lib.hid (altB_succ i)
      obtain ⟨x, hx⟩ : ∃ x : Int, x = (i : Int) % 2 := ⟨_, rfl⟩
      have hx0 : 0 ≤ x := by omega
      have hx1 : x < 2 := by omega
      have hx4 : x < 4294967296 := by omega
      rw [← hx] at t1 HAB
      clear hx
      have t2 : IntKind.i64.wrap x = x := IntWalk.i64_in _ (by omega)
      have t3 : IntKind.u32.wrap x = x := IntWalk.u32_in _ (by omega)
      go_wp2_with fail
      refine (put_calls wr g (altB i) x 1 HW.out hx0 hx4 (by omega) (Int.ediv_eq_zero_of_lt hx0 (by exact hx1)) (by rw [altB_len]; omega)).mono ?_
      rintro _ w2 ⟨rfl, hw2, hb2, hp2⟩
      have HW2 : Hid (Wtr w2 g (altB (i + 1))) := Lib.hid (by rw [HAB.out]; exact hw2)
      have HB2 := Lib.hid (HB.out.trans hb2)
      clear hw2 hb2 hp2 HW HB
      go_wp2_with fail
      go_roundw
      case rel => exact ⟨i + 1, by omega, by go_num, HW2, HB2⟩
      case measure => simp [intOf]; omega
    · obtain rfl : i = k := by omega
      have e5 : decide (i < i) = false := by simp
      have K1 := Lib.hid (Keeps.of_below (by rw [← HG.out]; exact HB.out) (S := []) : Keeps [] w wr)
      have hgs := HW.out.lt
      go_wp2_with fail
      refine (lent_calls wr _ _ _ lit (H1.out.keeps K1.out (off_nil _)) hn1).mono ?_
      rintro e w2 ⟨g1, rfl, hB1, hg1, hk1⟩
      have B1 := Lib.hid hB1
      have HW2 := Lib.hid (HW.out.keeps hk1 (by simp))
      have K2 := Lib.hid (K1.out.trans hk1)
      have G1 : Hid (g < g1) := Lib.hid (by omega)
      have HB2 : Hid (Below g w w2) := Lib.hid (HB.out.trans (below_lower hk1.below (Nat.le_of_lt hgs)))
      clear hB1 hg1 hk1 HW HB K1 hgs
      have hgs := HW2.out.lt
      go_wp2_with fail
      refine (lent_calls w2 _ _ _ dist (H2.out.keeps K2.out (off_nil _)) hn2).mono ?_
      rintro e w3 ⟨g2, rfl, hB2, hg2, hk2⟩
      have B2 := Lib.hid hB2
      have B13 := Lib.hid (B1.out.keeps hk2 (by simp))
      have HW3 := Lib.hid (HW2.out.keeps hk2 (by simp))
      have K3 := Lib.hid (K2.out.trans hk2)
      have G2 : Hid (g < g2) := Lib.hid (by omega)
      have HB3 : Hid (Below g w w3) := Lib.hid (HB2.out.trans (below_lower hk2.below (Nat.le_of_lt hgs)))
      have hR1 : RI .i64 w3 (some ⟨g1, 0, none⟩) n1 lit := by have := B13.out.ri; rwa [HL1.out] at this
      have hR2 : RI .i64 w3 (some ⟨g2, 0, none⟩) n2 dist := by have := hB2.ri; rwa [HL2.out] at this
      have R1 := Lib.hid hR1
      have R2 := Lib.hid hR2
      clear hB2 hg2 hk2 HW2 K2 HB2 hgs B1 hR1 hR2
      go_wp2_with fail
      refine (write_calls w3 g (altB i) _ _ n1 n2 _ _ lit dist (HT.out.keeps K3.out (by simp)) hgt HW3.out (by rw [altB_len]; omega) R1.out R2.out).mono ?_
      intro e w4 hwr
      obtain ⟨E, X, rfl, hw4, hx4, hb4, hp4, hE4⟩ := wrote_form hwr HW3.out
      have HW4 := Lib.hid hw4
      have HB4 := Lib.hid (HB3.out.trans hb4)
      have K4 := Lib.hid (Keeps.of_below (by rw [← HG.out]; exact HB4.out) (S := []) : Keeps [] w w4)
      have C1 := Lib.hid (blk_pt (by decide) (by have := G1.out; omega) B13.out hp4)
      have C2 := Lib.hid (blk_pt (by decide) (by have := G2.out; omega) B2.out hp4)
      have HE4 := Lib.hid hE4
      have HX4 := Lib.hid hx4
      clear hwr hw4 hx4 hb4 hp4 hE4 HW3 HB3 K3 R1 R2 B13 B2
      go_wp2_with fail
      refine (kept_calls w4 g1 _ _ _ lit (H1.out.keeps K4.out (off_nil _)) C1.out hn1).mono ?_
      rintro _ w5 ⟨rfl, hd⟩
      have hk := hd.keeps (S := [])
      have K5 := Lib.hid (K4.out.trans hk)
      have HW5 := Lib.hid (HW4.out.keeps hk (by simp))
      have D2 := Lib.hid (C2.out.keeps hk (by simp))
      clear hd hk K4 HW4 C1 C2 HB4
      go_wp2_with fail
      refine (kept_calls w5 g2 _ _ _ dist (H2.out.keeps K5.out (off_nil _)) D2.out hn2).mono ?_
      rintro _ w6 ⟨rfl, hd⟩
      have hk := hd.keeps (S := [])
      have K6 := Lib.hid (K5.out.trans hk)
      have HW6 := Lib.hid (HW5.out.keeps hk (by simp))
      clear hd hk K5 HW5 D2
      go_wp2_with fail
      refine (may_calls w6 _ _ _ _ _ _ lit dist (H1.out.keeps K6.out (off_nil _)) (H2.out.keeps K6.out (off_nil _))).mono ?_
      rintro _ w7 ⟨b, rfl, hb, hd⟩
      have hk := hd.keeps (S := [])
      have K7 := Lib.hid (K6.out.trans hk)
      have HW7 := Lib.hid (HW6.out.keeps hk (by simp))
      clear hd hk K6 HW6
      by_cases hm : MayW lit dist
      · obtain rfl : b = true := hb.2 hm
        obtain ⟨rfl, rfl⟩ : E = 0 ∧ X = headB lit dist := by
          rcases HE4.out with ⟨a, _, c⟩ | ⟨_, c, _⟩
          · exact ⟨a, c⟩
          · exact absurd hm c
        have HM := Lib.hid hm
        clear hb hm HE4
        obtain ⟨hl, hhl⟩ : ∃ x, x = (headB lit dist).length := ⟨_, rfl⟩
        have hhl5 : hl ≤ 5000 := by rw [hhl]; exact HX4.out
        have HHL := Lib.hid hhl
        have HLE : Hid ((hl : Int) ≤ 71 + 14 * ((n1 : Int) + (n2 : Int))) := Lib.hid (by have := HM.out.len; rw [HL1.out, HL2.out, ← hhl] at this; omega)
        clear hhl
        go_wp2_with fail
        refine (bytes_calls w7 g _ HW7.out (by rw [List.length_append, altB_len, ← HHL.out]; omega)).mono ?_
        rintro _ w8 ⟨n, xs, rfl, hr8, hwb, hb8⟩
        have hlw := hwb.len
        rw [List.length_append, altB_len, ← HHL.out] at hlw
        have hnl := hr8.len
        have hA : At xs i (headB lit dist) := by
          have := at_wb (pre := altB i) (bl := headB lit dist) (post := []) (by rw [List.append_nil]; exact hwb)
          rwa [altB_len] at this
        have HF : Hid (headF xs i = (lit, dist, hl, 0)) := Lib.hid (by rw [HHL.out]; exact HM.out.read (by rw [← HHL.out]; omega) hA)
        have HAB : Hid (∀ j, j < i → bitAt xs j = (j : Int) % 2) := Lib.hid (fun j hj => by rw [hwb.bit j (by rw [List.length_append, altB_len]; omega), nth_append_left _ _ _ (by rw [altB_len]; exact hj), altB_nth _ _ hj])
        have hk8 := Keeps.of_below hb8 (S := [])
        have K8 := Lib.hid (K7.out.trans hk8)
        have HW8 := Lib.hid (HW7.out.keeps hk8 (by simp))
        have HR8 := Lib.hid hr8
        have HBY := Lib.hid hwb.byte
        have hn : n ≤ 1000 := by omega
        have hin : i ≤ 8 * n := by omega
        have HNL := Lib.hid hnl
        clear hlw hnl hA hwb hr8 hb8 hk8 HW7 K7
        go_wp2_with fail
        refine (of_calls w8 _ _ _ xs HR8.out HBY.out (by omega)).mono ?_
        rintro _ w9 ⟨v3, rfl, ho3, hb3⟩
        have hk3 := Keeps.of_below hb3 (S := [])
        have K9 := Lib.hid (K8.out.trans hk3)
        have HW9 := Lib.hid (HW8.out.keeps hk3 (by simp))
        obtain ⟨AO, co, rfl, hro, _, hlo⟩ := own_ri ho3
        have HRO := Lib.hid hro
        have HLO : Hid (∀ a, AO = some a → a.block < w9.heap.size) := Lib.hid (fun a ha => (hlo a ha).2.1)
        clear hk3 hb3 ho3 hro hlo HW8 K8 HR8 HBY
        obtain ⟨M, hM⟩ : ∃ M, M = 8 * n := ⟨_, rfl⟩
        rw [← hM] at HRO hin ⊢
        have HM8 : Hid (M = 8 * xs.length) := Lib.hid (by rw [HNL.out, hM])
        have hM2 : M ≤ 8000 := by omega
        clear hM
        go_wp2_with fail
        have hcQ := refRead_calls w9 AO M co i xs HM8.out HRO.out hin (by omega) HLO.out
        rw [HF.out] at hcQ
        refine hcQ.mono ?_
        rintro _ w10 ⟨X1, x1, X2, x2, rfl, hx1, hx2, hk10⟩
        simp only [] at hx1 hx2
        have I1 := Lib.hid hx1
        have I2 := Lib.hid hx2
        have K10 := Lib.hid (K9.out.trans hk10)
        have HW10 := Lib.hid (HW9.out.keeps hk10 (by simp))
        have HRO10 := Lib.hid (HRO.out.keeps hk10 (off_nil _))
        have hl1 : lit.length ≤ 286 := HM.out.lit1
        have hl2 : dist.length ≤ 30 := HM.out.dist1
        clear hx1 hx2 hk10 hcQ HF HLO HRO HW9 K9
        simp only []
        rw [HL1.out, HL2.out]
        have J1 : Hid (RI .i64 w10 X1 n1 lit) := Lib.hid (by have := I1.out; rwa [HL1.out] at this)
        have J2 : Hid (RI .i64 w10 X2 n2 dist) := Lib.hid (by have := I2.out; rwa [HL2.out] at this)
        have hln1 : n1 ≤ 286 := by rw [← HL1.out]; exact hl1
        have hln2 : n2 ≤ 30 := by rw [← HL2.out]; exact hl2
        clear I1 I2 hl1 hl2
        go_wp2_with fail
        go_loopw [18] (fun jv wr => ∃ j : Nat, j ≤ i ∧ jv = .int .i64 j ∧ Hid (Keeps [] w10 wr)) (fun jv _ => i - (intOf jv).toNat)
        case atStart => exact ⟨0, by omega, rfl, Lib.hid (Keeps.refl _ _)⟩
        case round =>
          obtain ⟨j, hj, rfl, HKj⟩ := hrel
          by_cases hlt2 : j < i
          · have e6 : decide (j < i) = true := by simpa using hlt2
            obtain ⟨ob, oo, rfl, hoc⟩ := (HRO10.out.keeps HKj.out (off_nil _)).at (show j < M by omega)
            rw [bitsP_nth _ _ _ (by omega), HAB.out j hlt2] at hoc
            have t1 : ((j : Int)).tmod 2 = ((j : Int) % 2) := Int.tmod_eq_emod_of_nonneg (by omega)
            obtain ⟨x, hx⟩ : ∃ x : Int, x = (j : Int) % 2 := ⟨_, rfl⟩
            have hx0 : 0 ≤ x := by omega
            have hx1 : x < 2 := by omega
            rw [← hx] at t1 hoc
            clear hx
            have t2 : IntKind.i64.wrap x = x := IntWalk.i64_in _ (by omega)
            have t5 : (x != x) = false := by simp
            have hjM : j < M := by omega
            go_wp2_with fail
            go_roundw
            case rel => exact ⟨j + 1, by omega, by go_num, HKj⟩
            case measure => simp [intOf]; omega
          · obtain rfl : j = i := by omega
            have e6 : decide (j < j) = false := by simp
            go_wp2_with fail
            have K11 := Lib.hid (K10.out.trans HKj.out)
            refine (awake_calls _ (HT.out.keeps K11.out (by simp))).mono ?_
            rintro _ w11 ⟨rfl, hk11⟩
            have hkk := HKj.out.trans hk11
            have I1 := Lib.hid (J1.out.keeps hkk (off_nil _))
            have I2 := Lib.hid (J2.out.keeps hkk (off_nil _))
            have HW11 := Lib.hid (HW10.out.keeps hkk (by simp))
            have K12 := Lib.hid (K11.out.trans hk11)
            clear hk11 hkk J1 J2 HW10 K10 K11 HRO10
            go_wp2_with fail
            refine (ints_calls _ _ _ _ _ _ _ lit lit I1.out (H1.out.keeps K12.out (off_nil _)) (by omega) (by omega)).mono ?_
            rintro _ w12 ⟨rfl, hd⟩
            rw [beq_self_eq_true]
            have hk := hd.keeps (S := [])
            have J2 := Lib.hid (I2.out.keeps hk (off_nil _))
            have HW12 := Lib.hid (HW11.out.keeps hk (by simp))
            have K13 := Lib.hid (K12.out.trans hk)
            clear hd hk I1 I2 HW11 K12
            go_wp2_with fail
            refine (ints_calls _ _ _ _ _ _ _ dist dist J2.out (H2.out.keeps K13.out (off_nil _)) (by omega) (by omega)).mono ?_
            rintro _ w13 ⟨rfl, hd⟩
            rw [beq_self_eq_true]
            have hk := hd.keeps (S := [])
            have HW13 := Lib.hid (HW12.out.keeps hk (by simp))
            have K14 := Lib.hid (K13.out.trans hk)
            clear hd hk J2 HW12 K13
            go_wp2_with fail
            refine (writerLen_calls _ _ _ HW13.out).mono ?_
            rintro _ w14 ⟨rfl, hd⟩
            rw [List.length_append, altB_len, ← HHL.out]
            have K15 := Lib.hid (K14.out.trans (hd.keeps (S := [])))
            clear hd HW13 K14
            have q1 : IntKind.i64.wrap ((j : Int) + (hl : Int)) = (j : Int) + (hl : Int) := IntWalk.i64_in _ (by omega)
            have q2 : IntKind.i64.wrap ((n1 : Int) + (n2 : Int)) = (n1 : Int) + (n2 : Int) := IntWalk.i64_in _ (by omega)
            have q3 : IntKind.i64.wrap (14 * ((n1 : Int) + (n2 : Int))) = 14 * ((n1 : Int) + (n2 : Int)) := IntWalk.i64_in _ (by omega)
            have q4 : IntKind.i64.wrap (71 + 14 * ((n1 : Int) + (n2 : Int))) = 71 + 14 * ((n1 : Int) + (n2 : Int)) := IntWalk.i64_in _ (by omega)
            have q5 : decide ((hl : Int) ≤ 71 + 14 * ((n1 : Int) + (n2 : Int))) = true := by simpa using HLE.out
            go_wp2_with fail
            go_ret
            exact ⟨rfl, K15.out⟩
      · obtain rfl : b = false := by
          cases b with
          | false => rfl
          | true => exact absurd (hb.1 rfl) hm
        obtain ⟨rfl, rfl⟩ : E = 1 ∧ X = [] := by
          rcases HE4.out with ⟨_, a, _⟩ | ⟨a, _, c⟩
          · exact absurd a hm
          · exact ⟨a, c⟩
        clear hb hm HE4
        go_wp2_with fail
        refine (awake_calls _ (HT.out.keeps K7.out (by simp))).mono ?_
        rintro _ w8 ⟨rfl, hk⟩
        have HW8 := Lib.hid (HW7.out.keeps hk (by simp))
        have K8 := Lib.hid (K7.out.trans hk)
        clear hk HW7 K7
        go_wp2_with fail
        refine (writerLen_calls _ _ _ HW8.out).mono ?_
        rintro _ w9 ⟨rfl, hd⟩
        rw [List.append_nil, altB_len]
        have K9 := Lib.hid (K8.out.trans (hd.keeps (S := [])))
        clear hd HW8 K8
        go_wp2_with fail
        go_ret
        exact ⟨rfl, K9.out⟩
theorem lensWrites_walk (w : World) (A1 : Option Addr) (n1 c1 : Nat) (lit : List Int) (A2 : Option Addr) (n2 c2 : Nat) (dist : List Int) (k : Int) (hT : Tabs w)
    (h1 : RI .i64 w A1 n1 lit) (hm1 : n1 ≤ maxLen) (hnil1 : A1 = none → n1 = 0 ∧ c1 = 0) (hwf1 : ∀ x ∈ lit, (Lit.int .i64 x).wf = true)
    (h2 : RI .i64 w A2 n2 dist) (hm2 : n2 ≤ maxLen) (hnil2 : A2 = none → n2 = 0 ∧ c2 = 0) (hwf2 : ∀ x ∈ dist, (Lit.int .i64 x).wf = true) (hk : (Lit.int .i64 k).wf = true) :
    Calls Tryd.prog 14 #[.slice A1 n1 c1, .slice A2 n2 c2, .int .i64 k] w fun e w' => e = .returned (.bool true) ∧ Keeps [] w w' := by
  by_cases h : 1048576 < n1 ∨ 1048576 < n2 ∨ k < 0 ∨ 100 < k
  · exact writes_awake w A1 A2 n1 n2 c1 c2 k hT h
  · obtain ⟨j, rfl⟩ := Int.eq_ofNat_of_zero_le (show 0 ≤ k by omega)
    exact writes_main w A1 A2 n1 n2 c1 c2 lit dist j hT h1 h2 (by omega) (by omega) (by omega)
end Go.Proofs.YtcblibefmclloaaDoor
