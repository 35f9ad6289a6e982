import Derived.Test.YtkpabdjniiepkaaGreatDoorDflJ
import Derived.Test.YtkpabdjniiepkaaGreatDoorDflG
import Derived.Test.YtkpabdjniiepkaaGreatDoorDflH
import Derived.Test.YtkpabdjniiepkaaGreatDoorDflI
import Derived.Deep.RegionWith
set_option linter.unusedVariables false
set_option linter.unusedSimpArgs false
namespace Go.Proofs.YtkpabdjniiepkaaGreatDoor
open Go.RowKit
theorem rsymbols_bad (w : World) (g : Nat) (B : Option Addr) (M c : Nat) (bs : List Int) (p : Nat) (out : List Int) (most : Nat) (e : Int) (ob : Option Nat) (v1 v2 : Value) (h : RD w g B M c bs p out most e ob) (he : e ≠ 0) :
    Calls Tryz.prog 56 #[.pointer (some ⟨g, 0, none⟩), v1, v2] w fun r w' => r = .returned (.tuple #[]) ∧ RD w' g B M c bs p out most e ob ∧ Keeps [] w w' := by
  have H := Lib.hid h
  obtain ⟨-, -, -, c4, -⟩ := h.cells
  clear h
  have e1 : (e != 0) = true := by simpa using he
  clear he
  go_enter Tryz.func56, Tryz.ntmps56
  go_wp2_with fail
  exact bodyPost_ret (v := .tuple #[]) (results_none rfl _ _ _) rfl ⟨rfl, H.out, Keeps.refl _ _⟩
set_option maxRecDepth 100000 in
set_option maxHeartbeats 4000000 in
theorem rsymbols_calls (w : World) (g : Nat) (B : Option Addr) (M c : Nat) (bs : List Int) (p : Nat) (out : List Int) (most : Nat) (ob : Option Nat) (lit dist : List Int) (A1 A2 : Option Addr) (n1 n2 c1 c2 : Nat) (h : RD w g B M c bs p out most 0 ob)
    (hl : RI .i64 w A1 n1 lit) (hd : RI .i64 w A2 n2 dist) (hn1 : n1 ≤ 288) (hn3 : n2 ≤ 288) (hc1 : checkF lit = 0) (hc2 : anyUsed dist = true → checkF dist = 0) (hok : dist.all okLen = true)
    (hA : ∀ a, A2 = some a → a.block ≠ g ∧ ob ≠ some a.block ∧ a.block < w.heap.size) :
    Calls Tryz.prog 56 #[.pointer (some ⟨g, 0, none⟩), .slice A1 n1 c1, .slice A2 n2 c2] w (RPart w g B M c bs most ob (symF lit dist bs most (8 * bs.length + 1) out p)) := by
  have H := Lib.hid h
  have HL := Lib.hid hl
  have HD := Lib.hid hd
  have HC1 := Lib.hid hc1
  have HC2 := Lib.hid hc2
  have HOK := Lib.hid hok
  have HML := Lib.hid h.len
  have HA2 := Lib.hid hA
  have HN1 := Lib.hid hl.len
  have HN2 := Lib.hid hd.len
  have HGL := Lib.hid h.lt
  have HOL := Lib.hid h.oblo
  have hsz := h.sz
  obtain ⟨-, -, -, c4, -⟩ := h.cells
  clear h hl hd hc1 hc2 hok hA
  go_enter Tryz.func56, Tryz.ntmps56
  go_wp2_with fail
  refine (rows_calls w A1 n1 c1 lit HL.out hn1 (check_ok HC1.out).2).mono ?_
  rintro _ w1 ⟨rfl, hr1, hb1⟩
  have hk1 := Keeps.of_below hb1 (S := [])
  have H1 := Lib.hid (H.out.keeps hk1)
  have K1 := Lib.hid (FR.of_nil (g := g) (ob := ob) hk1)
  have HD1 := Lib.hid (HD.out.keeps hk1 (off_nil _))
  have HR1 := Lib.hid hr1.top
  have HS1 : Hid (w.heap.size ≤ w1.heap.size) := Lib.hid hk1.size
  obtain ⟨g1, hg1⟩ : ∃ g1, g1 = w.heap.size := ⟨_, rfl⟩
  obtain ⟨t1, ht1⟩ : ∃ t1, t1 = w1.heap.size := ⟨_, rfl⟩
  have HG1 := Lib.hid hg1
  have HT1 := Lib.hid ht1
  rw [← hg1, ← ht1] at HR1
  rw [← hg1]
  clear hr1 hb1 hk1 hg1 ht1 H HL HD c4
  go_wp2_with fail
  refine (rows_calls w1 A2 n2 c2 dist HD1.out hn3 HOK.out).mono ?_
  rintro _ w2 ⟨rfl, hr2, hb2⟩
  have hk2 := Keeps.of_below hb2 (S := [])
  have H2 := Lib.hid (H1.out.keeps hk2)
  have K2 := Lib.hid (K1.out.trans (FR.of_nil hk2))
  have HD2 := Lib.hid (HD1.out.keeps hk2 (off_nil _))
  have HR12 := Lib.hid (HR1.out.keeps hk2 (by simp))
  have HR2 := Lib.hid hr2.top
  obtain ⟨g2, hg2⟩ : ∃ g2, g2 = w1.heap.size := ⟨_, rfl⟩
  obtain ⟨t2, ht2⟩ : ∃ t2, t2 = w2.heap.size := ⟨_, rfl⟩
  rw [← hg2, ← ht2] at HR2
  rw [← hg2]
  have hgg1 : g < g1 := by have := HG1.out; have := HGL.out; omega
  have hgg2 : g < g2 := by have := HS1.out; have := HGL.out; omega
  have HP1 : Hid (Apart g1 t1 ob) := Lib.hid (fun x hx => .inl (by have := (HOL.out x hx).2; have := HG1.out; omega))
  have HP2 : Hid (Apart g2 t2 ob) := Lib.hid (fun x hx => .inl (by have := (HOL.out x hx).2; have := HS1.out; omega))
  have HA3 : Hid (∀ a, A2 = some a → a.block ≠ g ∧ ob ≠ some a.block ∧ a.block < w2.heap.size) := Lib.hid (fun a ha => by
    obtain ⟨x1, x2, x3⟩ := HA2.out a ha
    exact ⟨x1, x2, Nat.lt_of_lt_of_le x3 (Nat.le_trans HS1.out hk2.size)⟩)
  clear hr2 hb2 hk2 hg2 ht2 H1 K1 HD1 HR1 HS1 HA2 HGL HOL HG1 HT1
  go_wp2_with fail
  go_loopg [8] (8 * bs.length + 2) (fun k v8 wr => ∃ (q : Nat) (o : List Int) (e : Int) (ob' : Option Nat), Hid ((e = 0 ∧ 8 * bs.length - q + 1 < k ∧ q ≤ 8 * bs.length ∧ symF lit dist bs most (8 * bs.length + 1) out p = symF lit dist bs most (k - 1) o q) ∨
      (e ≠ 0 ∧ 0 < k ∧ (symF lit dist bs most (8 * bs.length + 1) out p).1 = o ∧ (symF lit dist bs most (8 * bs.length + 1) out p).2.2 = e)) ∧ Hid (RD wr g B M c bs q o most e ob') ∧ Hid (FR g ob ob' w wr) ∧ Hid (RBT wr g1 t1 n1 (rowsF lit)) ∧ Hid (RBT wr g2 t2 n2 (rowsF dist)) ∧
      Hid (Apart g1 t1 ob') ∧ Hid (Apart g2 t2 ob') ∧ Hid (RI .i64 wr A2 n2 dist) ∧ Hid (∀ a, A2 = some a → a.block ≠ g ∧ ob' ≠ some a.block ∧ a.block < wr.heap.size))
  case atStart => exact ⟨p, out, 0, ob, Lib.hid (.inl ⟨rfl, by omega, by have := H2.out.le; have := HML.out; omega, rfl⟩), H2, K2, HR12, HR2, HP1, HP2, HD2, HA3⟩
  case round =>
    clear H2 K2 HR12 HR2 HP1 HP2 HD2 HA3
    obtain ⟨q, o, e, ob', HS, H, K, HR1, HR2, HP1, HP2, HDR, HA⟩ := hrel
    obtain ⟨-, -, -, c4, -⟩ := H.out.cells
    rcases HS.out with ⟨rfl, hk, hq, hsf⟩ | ⟨hne, hk, hs1, hs2⟩
    rotate_left
    · have e1 : (e == 0) = false := by simpa using hne
      have HX1 := Lib.hid hs1
      have HX2 := Lib.hid hs2
      have HNE := Lib.hid hne
      clear HS hne hs1 hs2
      go_wp2_with fail
      go_end0
      exact ⟨q, ob', rfl, by rw [HX1.out, HX2.out]; exact H.out, K.out, fun h => by rw [HX2.out] at h; exact absurd h HNE.out⟩
    obtain ⟨f, rfl⟩ : ∃ f, gk = f + 1 + 1 := ⟨gk - 2, by omega⟩
    rw [show f + 1 + 1 - 1 = f + 1 by omega] at hsf
    have HS2 : Hid (symF lit dist bs most (8 * bs.length + 1) out p = if (decF lit bs q).2.1 ≠ 0 then (o, 0, endF (decF lit bs q).2.1 53)
        else if (decF lit bs q).1 = 256 then (o, q + (decF lit bs q).2.2, 0)
        else if (decF lit bs q).1 < 256 then
          if most ≤ o.length then (o, 0, 56) else symF lit dist bs most f (o ++ [(decF lit bs q).1]) (q + (decF lit bs q).2.2)
        else if (copyF dist bs most (decF lit bs q).1.toNat o (q + (decF lit bs q).2.2)).2.2 ≠ 0 then copyF dist bs most (decF lit bs q).1.toNat o (q + (decF lit bs q).2.2)
        else symF lit dist bs most f (copyF dist bs most (decF lit bs q).1.toNat o (q + (decF lit bs q).2.2)).1 (copyF dist bs most (decF lit bs q).1.toNat o (q + (decF lit bs q).2.2)).2.1) := Lib.hid (by rw [hsf, symF])
    clear hsf HS
    go_wp2_with fail
    clear c4
    refine (rsym_calls wr g B M c bs q o most ob' g1 t1 n1 lit 53 H.out HR1.out HC1.out hn1).mono ?_
    rintro _ w3 ⟨rfl, hh3, k3⟩
    have hbd := dec_bd lit bs q hq
    have hadv := dec_adv lit bs q hq
    have hfr3 : FR g ob' ob' wr w3 := FR.of_keeps k3
    have H3 := Lib.hid hh3
    have K3 := Lib.hid (K.out.trans hfr3)
    have HR13 := Lib.hid (HR1.out.fr hfr3 hgg1 HP1.out).1
    have HR23 := Lib.hid (HR2.out.fr hfr3 hgg2 HP2.out).1
    have HD3 := Lib.hid (HDR.out.keeps k3 (fun a ha hm => (HA.out a ha).1 (List.mem_singleton.1 hm)))
    have HA3 : Hid (∀ a, A2 = some a → a.block ≠ g ∧ ob' ≠ some a.block ∧ a.block < w3.heap.size) := Lib.hid (fun a ha => ⟨(HA.out a ha).1, (HA.out a ha).2.1, Nat.lt_of_lt_of_le (HA.out a ha).2.2 k3.size⟩)
    obtain ⟨-, -, -, c4, -⟩ := hh3.cells
    clear hh3 k3 hfr3 H K HR1 HR2 HDR HA
    generalize decF lit bs q = dr at *
    obtain ⟨sy, er, nn⟩ := dr
    simp only [] at H3 hbd hadv HS2 c4 ⊢
    rcases hbd with ⟨rfl, d, rfl, hdl2, hq2⟩ | ⟨her, rfl, rfl⟩
    rotate_left
    · have HR : Hid (symF lit dist bs most (8 * bs.length + 1) out p = (o, 0, endF er 53)) := Lib.hid (by rw [HS2.out, if_pos her])
      have HNE : Hid (endF er 53 ≠ 0) := Lib.hid (fun h => her (endF_zero (by decide) h))
      obtain ⟨y, hy⟩ : ∃ y, y = endF er 53 := ⟨_, rfl⟩
      rw [← hy] at HR HNE H3 c4
      have e5 : (y != 0) = true := by simpa using HNE.out
      clear her HS2 hadv hy
      go_wp2_with fail
      go_roundg 1
      case measure => omega
      case rel => exact ⟨_, o, y, ob', Lib.hid (.inr ⟨HNE.out, by omega, by rw [HR.out], by rw [HR.out]⟩), H3, K3, HR13, HR23, HP1, HP2, HD3, HA3⟩
    rw [show endF 0 53 = 0 from rfl] at H3 c4
    obtain ⟨hn1', -, -, -⟩ := hadv rfl
    rw [Int.toNat_natCast] at HS2
    have hdl3 : d < 288 := by rw [HN1.out] at hdl2; omega
    have HQ2 : Hid (q + nn ≤ 8 * bs.length) := Lib.hid hq2
    clear hadv hdl2 hq2
    by_cases h256 : d = 256
    · subst h256
      have HR : Hid (symF lit dist bs most (8 * bs.length + 1) out p = (o, q + nn, 0)) := Lib.hid (by rw [HS2.out, if_neg (by simp), if_pos (by decide)])
      have e7 : decide (((256 : Nat) : Int) < 256) = false := by decide
      have e6 : (((256 : Nat) : Int) == 256) = true := by decide
      clear HS2
      go_wp2_with fail
      exact bodyPost_ret (v := .tuple #[]) (results_none rfl _ _ _) rfl (rpart_ok HR.out H3.out K3.out)
    have e6 : ((d : Int) == 256) = false := by simp; omega
    by_cases hlt : d < 256
    · have e7 : decide (d < 256) = true := by simpa using hlt
      have e7' : decide ((d : Int) < 256) = true := by simp; omega
      have s1 : IntKind.u8.wrap (d : Int) = d := by rw [IntKind.wrap_u8]; omega
      have HS3 := Lib.hid (HS2.out.trans (by rw [if_neg (by simp), if_neg (by omega), if_pos (by omega)]))
      clear HS2
      go_wp2_with fail
      refine (rlay_calls w3 g B M c bs (q + nn) o most 0 ob' d H3.out).mono ?_
      rintro _ w4 ⟨rfl, hl4⟩
      rcases hl4 with ⟨z1, _⟩ | ⟨-, z2, z3, z4⟩ | ⟨-, z2, ob2, z3, z4⟩
      · exact absurd rfl z1
      · have H4 := Lib.hid z3
        have K4 := Lib.hid (K3.out.trans z4)
        have HE : Hid (symF lit dist bs most (8 * bs.length + 1) out p = (o, 0, 56)) := Lib.hid (by rw [HS3.out, if_pos z2])
        have HR14 := Lib.hid (HR13.out.fr z4 hgg1 HP1.out).1
        have HR24 := Lib.hid (HR23.out.fr z4 hgg2 HP2.out).1
        have HD4 := Lib.hid (HD3.out.keeps z4.keeps (fun a ha hm => by
          rcases List.mem_cons.1 hm with e | e
          · exact (HA3.out a ha).1 e
          · exact (HA3.out a ha).2.1 (Option.mem_toList.1 e)))
        have HA4 : Hid (∀ a, A2 = some a → a.block ≠ g ∧ ob' ≠ some a.block ∧ a.block < w4.heap.size) := Lib.hid (fun a ha => ⟨(HA3.out a ha).1, (HA3.out a ha).2.1, Nat.lt_of_lt_of_le (HA3.out a ha).2.2 z4.keeps.size⟩)
        clear z2 z3 z4 H3 K3 HS3 HR13 HR23 HD3 HA3
        go_wp2_with fail
        go_roundg 1
        case measure => omega
        case rel => exact ⟨_, o, 56, ob', Lib.hid (.inr ⟨by decide, by omega, by rw [HE.out], by rw [HE.out]⟩), H4, K4, HR14, HR24, HP1, HP2, HD4, HA4⟩
      · have H4 := Lib.hid z3
        have K4 := Lib.hid (K3.out.trans z4)
        have HE : Hid (symF lit dist bs most (8 * bs.length + 1) out p = symF lit dist bs most f (o ++ [(d : Int)]) (q + nn)) := Lib.hid (by rw [HS3.out, if_neg (by omega)])
        obtain ⟨y1, y2⟩ := HR13.out.fr z4 hgg1 HP1.out
        obtain ⟨y3, y4⟩ := HR23.out.fr z4 hgg2 HP2.out
        have HR14 := Lib.hid y1
        have HR24 := Lib.hid y3
        have HP14 := Lib.hid y2
        have HP24 := Lib.hid y4
        have HD4 := Lib.hid (HD3.out.keeps z4.keeps (fun a ha hm => by
          rcases List.mem_cons.1 hm with e | e
          · exact (HA3.out a ha).1 e
          · exact (HA3.out a ha).2.1 (Option.mem_toList.1 e)))
        have HA4 : Hid (∀ a, A2 = some a → a.block ≠ g ∧ ob2 ≠ some a.block ∧ a.block < w4.heap.size) := Lib.hid (fun a ha => ⟨(HA3.out a ha).1, fun h => by
          rcases z4.row _ h with r | r
          · exact (HA3.out a ha).2.1 r
          · have := (HA3.out a ha).2.2; omega, Nat.lt_of_lt_of_le (HA3.out a ha).2.2 z4.keeps.size⟩)
        clear z2 z3 z4 y1 y2 y3 y4 H3 K3 HS3 HR13 HR23 HD3 HA3
        go_wp2_with fail
        go_roundg (f + 1)
        case measure => omega
        case rel => exact ⟨q + nn, o ++ [(d : Int)], 0, ob2, Lib.hid (.inl ⟨rfl, by have := HQ2.out; omega, HQ2.out, by rw [show f + 1 - 1 = f by omega]; exact HE.out⟩), H4, K4, HR14, HR24, HP14, HP24, HD4, HA4⟩
    · have e7 : decide (d < 256) = false := by simpa using hlt
      have e7' : decide ((d : Int) < 256) = false := by simp; omega
      have HS3 := Lib.hid (HS2.out.trans (by rw [if_neg (by simp), if_neg (by omega), if_neg (by omega)]))
      clear HS2
      go_wp2_with fail
      refine (rcopies_calls w3 g B M c bs (q + nn) o most ob' d dist A2 n2 c2 g2 t2 H3.out HD3.out HR23.out HC2.out hn3 (by omega) (by omega) (fun a ha => (HA3.out a ha).1) hgg2 HP2.out).mono ?_
      rintro _ w4 ⟨q3, ob2, rfl, h4, z4, hq3⟩
      have HPS := Lib.hid (copyF_pos dist bs most d o (q + nn) HQ2.out)
      have H4 := Lib.hid h4
      have K4 := Lib.hid (K3.out.trans z4)
      obtain ⟨y1, y2⟩ := HR13.out.fr z4 hgg1 HP1.out
      obtain ⟨y3, y4⟩ := HR23.out.fr z4 hgg2 HP2.out
      have HR14 := Lib.hid y1
      have HR24 := Lib.hid y3
      have HP14 := Lib.hid y2
      have HP24 := Lib.hid y4
      have HD4 := Lib.hid (HD3.out.keeps z4.keeps (fun a ha hm => by
          rcases List.mem_cons.1 hm with e | e
          · exact (HA3.out a ha).1 e
          · exact (HA3.out a ha).2.1 (Option.mem_toList.1 e)))
      have HA4 : Hid (∀ a, A2 = some a → a.block ≠ g ∧ ob2 ≠ some a.block ∧ a.block < w4.heap.size) := Lib.hid (fun a ha => ⟨(HA3.out a ha).1, fun h => by
          rcases z4.row _ h with r | r
          · exact (HA3.out a ha).2.1 r
          · have := (HA3.out a ha).2.2; omega, Nat.lt_of_lt_of_le (HA3.out a ha).2.2 z4.keeps.size⟩)
      have HQ3 := Lib.hid hq3
      clear h4 z4 hq3 y1 y2 y3 y4 H3 K3 HR13 HR23 HD3 HA3
      generalize copyF dist bs most d o (q + nn) = cr at *
      obtain ⟨o3, p3, er⟩ := cr
      simp only [] at HPS H4 HQ3 HS3 ⊢
      by_cases her : er = 0
      · subst her
        obtain ⟨a1, a2⟩ := HPS.out rfl
        obtain rfl := HQ3.out rfl
        have HE : Hid (symF lit dist bs most (8 * bs.length + 1) out p = symF lit dist bs most f o3 q3) := Lib.hid (by rw [HS3.out, if_neg (by simp)])
        clear HS3 HPS HQ3
        go_wp2_with fail
        go_roundg (f + 1)
        case measure => omega
        case rel => exact ⟨q3, o3, 0, ob2, Lib.hid (.inl ⟨rfl, by have := HQ2.out; omega, a2, by rw [show f + 1 - 1 = f by omega]; exact HE.out⟩), H4, K4, HR14, HR24, HP14, HP24, HD4, HA4⟩
      · have HE : Hid (symF lit dist bs most (8 * bs.length + 1) out p = (o3, p3, er)) := Lib.hid (by rw [HS3.out, if_pos her])
        have HER := Lib.hid her
        clear HS3 HPS HQ3 her
        go_wp2_with fail
        go_roundg 1
        case measure => omega
        case rel => exact ⟨q3, o3, er, ob2, Lib.hid (.inr ⟨HER.out, by omega, by rw [HE.out], by rw [HE.out]⟩), H4, K4, HR14, HR24, HP14, HP24, HD4, HA4⟩
end Go.Proofs.YtkpabdjniiepkaaGreatDoor

set_option linter.unusedVariables false
set_option linter.unusedSimpArgs false
/-! Plain: how the lists of kind 2 are refused. -/
namespace Go.Proofs.YtkpabdjniiepkaaGreatDoor
theorem checkF_val (l : List Int) : checkF l = 0 ∨ checkF l = 1 ∨ checkF l = 30 ∨ checkF l = 31 := by
  unfold checkF
  repeat' split
  all_goals simp
theorem codes_err {h : List Int × List Int × Nat × Int} {e : Int} (hh : h = ([], [], 0, e)) (he : e ≠ 0) : codesE h = endF e 52 := by
  subst hh; unfold codesE; rw [if_pos he]
theorem codes_e1 {bs : List Int} {p : Nat} (h : 8 * bs.length < p + 14) : codesE (headF bs p) = 55 := by
  rw [codes_err (e := 10) (by unfold headF; rw [if_pos h]) (by decide)]; rfl
theorem codes_e2 {bs : List Int} {p : Nat} (h : ¬ 8 * bs.length < p + 14) (h2 : 29 < numB bs p 5 ∨ 29 < numB bs (p + 5) 5) : codesE (headF bs p) = 52 := by
  rw [codes_err (e := 40) (by unfold headF; rw [if_neg h, if_pos h2]) (by decide)]; rfl
theorem codes_e3 {bs : List Int} {p : Nat} (h : ¬ 8 * bs.length < p + 14) (h2 : ¬ (29 < numB bs p 5 ∨ 29 < numB bs (p + 5) 5)) (h3 : 8 * bs.length < p + 14 + 3 * manyF bs p) : codesE (headF bs p) = 55 := by
  rw [codes_err (e := 10) (by unfold headF; rw [if_neg h, if_neg h2, if_pos h3]) (by decide)]; rfl
theorem codes_e4 {bs : List Int} {p : Nat} (h : ¬ 8 * bs.length < p + 14) (h2 : ¬ (29 < numB bs p 5 ∨ 29 < numB bs (p + 5) 5)) (h3 : ¬ 8 * bs.length < p + 14 + 3 * manyF bs p) (h4 : checkF (codesH bs p) ≠ 0) : codesE (headF bs p) = 52 := by
  rw [codes_err (e := checkF (codesH bs p)) (by unfold headF; rw [if_neg h, if_neg h2, if_neg h3, if_pos h4]) h4]
  rcases checkF_val (codesH bs p) with e | e | e | e <;> rw [e] <;> first | rfl | (exact absurd e h4)
theorem codes_e5 {bs : List Int} {p : Nat} {e : Int} (h : ¬ 8 * bs.length < p + 14) (h2 : ¬ (29 < numB bs p 5 ∨ 29 < numB bs (p + 5) 5)) (h3 : ¬ 8 * bs.length < p + 14 + 3 * manyF bs p) (h4 : checkF (codesH bs p) = 0) (h5 : (readR bs p).2.2 = e) (he : e ≠ 0) :
    codesE (headF bs p) = endF e 52 := codes_err (head_err h h2 h3 h4 h5 he) he
/-! Lengths that are said are lengths. -/
def lenOk (l : List Int) : Prop := ∀ x ∈ l, 0 ≤ x ∧ x ≤ 15
theorem addF_ok {l l' : List Int} {s e N : Int} (hl : lenOk l) (h : addF l s e N = some l') : lenOk l' := by
  unfold addF at h
  cases hs : sayF l s e with
  | none => rw [hs] at h; cases h
  | some r =>
    obtain ⟨v, k⟩ := r
    rw [hs] at h
    simp only [] at h
    split at h
    · obtain rfl := Option.some.inj h
      have hv : 0 ≤ v ∧ v ≤ 15 := by
        unfold sayF at hs
        split at hs
        · next h1 => injection hs with hs; injection hs with a b; omega
        split at hs
        · injection hs with hs; injection hs with a b
          subst a
          by_cases hz : l.length - 1 < l.length
          · rw [List.getD, List.getElem?_eq_getElem hz]
            exact hl _ (List.getElem_mem _)
          · rw [List.getD, List.getElem?_eq_none (by omega)]; exact ⟨Int.le_refl _, by decide⟩
        split at hs
        · injection hs with hs; injection hs with a b; omega
        split at hs
        · injection hs with hs; injection hs with a b; omega
        · cases hs
      intro x hx
      rcases List.mem_append.1 hx with hx | hx
      · exact hl x hx
      · rw [List.eq_of_mem_replicate hx]; exact hv
    · cases h
theorem stepsF_ok (codes bs : List Int) (N : Int) : ∀ f l q, lenOk l → lenOk (stepsF codes bs N f l q).1
  | 0, l, q, h => h
  | f + 1, l, q, h => by
    rw [stepsF]
    split
    · exact h
    split
    · intro x hx; simp at hx
    split
    · intro x hx; simp at hx
    split
    · intro x hx; simp at hx
    · next l' ha => exact stepsF_ok codes bs N f l' _ (addF_ok h ha)
theorem head_lenOk (bs : List Int) (p : Nat) : lenOk (headF bs p).1 ∧ lenOk (headF bs p).2.1 := by
  have hr : lenOk (readR bs p).1 := stepsF_ok _ _ _ _ _ _ (by intro x hx; simp at hx)
  have hn : lenOk [] := by intro x hx; simp at hx
  unfold headF
  split
  · exact ⟨hn, hn⟩
  split
  · exact ⟨hn, hn⟩
  split
  · exact ⟨hn, hn⟩
  split
  · exact ⟨hn, hn⟩
  split
  · exact ⟨hn, hn⟩
  · exact ⟨fun x hx => hr x (List.mem_of_mem_take hx), fun x hx => hr x (List.mem_of_mem_drop hx)⟩
theorem lenOk_all {l : List Int} (h : lenOk l) : l.all okLen = true := by
  rw [List.all_eq_true]
  intro x hx
  have := h x hx
  simp [okLen]; omega
theorem stepsF_len (codes bs : List Int) (N : Int) (hN : 0 ≤ N) : ∀ f l q, (l.length : Int) ≤ N → ((stepsF codes bs N f l q).1.length : Int) ≤ N
  | 0, l, q, h => h
  | f + 1, l, q, h => by
    rw [stepsF]
    split
    · exact h
    split
    · simpa using hN
    split
    · simpa using hN
    split
    · simpa using hN
    · next l' haf => exact stepsF_len codes bs N hN f l' _ (addF_grows haf).2.1
theorem stepsF_full (codes bs : List Int) (N : Int) : ∀ f l q, N ≤ ((l.length + f : Nat) : Int) → (stepsF codes bs N f l q).2.2 = 0 → N ≤ (stepsF codes bs N f l q).1.length
  | 0, l, q, hf, h => by simpa [stepsF] using hf
  | f + 1, l, q, hf, h => by
    rw [stepsF] at h ⊢
    split
    · assumption
    next h1 =>
    rw [if_neg h1] at h
    split
    · next h2 => rw [if_pos h2] at h; exact absurd h h2
    next h2 =>
    rw [if_neg h2] at h
    split
    · next h3 => rw [if_pos h3] at h; simp at h
    next h3 =>
    rw [if_neg h3] at h
    split
    · next ha => rw [ha] at h; simp at h
    · next l' ha =>
      rw [ha] at h
      have := (addF_grows ha).1
      exact stepsF_full codes bs N f l' _ (by omega) h
theorem head_full {bs : List Int} {p : Nat} (h : (headF bs p).2.2.2 = 0) : (headF bs p).1.length = litF bs p ∧ (headF bs p).2.1.length = distF bs p := by
  unfold headF at h ⊢
  split
  · next h1 => rw [if_pos h1] at h; simp at h
  next h1 =>
  rw [if_neg h1] at h
  split
  · next h2 => rw [if_pos h2] at h; simp at h
  next h2 =>
  rw [if_neg h2] at h
  split
  · next h3 => rw [if_pos h3] at h; simp at h
  next h3 =>
  rw [if_neg h3] at h
  split
  · next h4 => rw [if_pos h4] at h; exact absurd h h4
  next h4 =>
  rw [if_neg h4] at h
  split
  · next h5 => rw [if_pos h5] at h; exact absurd h h5
  · next h5 =>
    have hf := stepsF_full (codesH bs p) bs ((litF bs p + distF bs p : Nat) : Int) (litF bs p + distF bs p) [] (p + 14 + 3 * manyF bs p) (by simp) (by
      have : (readR bs p).2.2 = 0 := by omega
      exact this)
    have hl := stepsF_len (codesH bs p) bs ((litF bs p + distF bs p : Nat) : Int) (Int.natCast_nonneg _) (litF bs p + distF bs p) [] (p + 14 + 3 * manyF bs p) (by simp; omega)
    change _ ≤ ((readR bs p).1.length : Int) at hf
    change ((readR bs p).1.length : Int) ≤ _ at hl
    simp only [List.length_take, List.length_drop]
    omega
theorem litF_le (bs : List Int) (p : Nat) : litF bs p ≤ 288 := by
  have := numB_lt bs p 5
  unfold litF
  have e : (2 : Int) ^ 5 = 32 := rfl
  omega
theorem distF_le (bs : List Int) (p : Nat) : distF bs p ≤ 32 := by
  have := numB_lt bs (p + 5) 5
  unfold distF
  have e : (2 : Int) ^ 5 = 32 := rfl
  omega
theorem codesE_ok {h : List Int × List Int × Nat × Int} (he : codesE h = 0) : h.2.2.2 = 0 ∧ checkF h.1 = 0 ∧ (anyUsed h.2.1 = true → checkF h.2.1 = 0) := by
  have h0 := codesE_zero he
  unfold codesE at he
  rw [if_neg (by rw [h0]; simp)] at he
  split at he
  · simp at he
  split at he
  · simp at he
  next h2 =>
  split at he
  · simp at he
  next h3 =>
  exact ⟨h0, by omega, fun hu => Classical.byContradiction fun hn => h3 ⟨hu, hn⟩⟩
end Go.Proofs.YtkpabdjniiepkaaGreatDoor

set_option linter.unusedVariables false
set_option linter.unusedSimpArgs false
namespace Go.Proofs.YtkpabdjniiepkaaGreatDoor
open Go.RowKit
set_option maxRecDepth 100000 in
set_option maxHeartbeats 1000000 in
theorem refCheck_calls (w : World) (A : Option Addr) (n c : Nat) (l : List Int) (hl : RI .i64 w A n l) (hn : n ≤ 140737488355328) :
    Calls Tryz.prog 85 #[.slice A n c] w fun e w' => e = .returned (.int .i64 (checkF l)) ∧ Dr w w' := by
  have hll := hl.len
  have HL := Lib.hid hl
  have HLL := Lib.hid hll
  clear hl
  by_cases h0 : n < 1
  · have hr : checkF l = 1 := by rw [checkF, if_pos (by omega)]
    have e0 : decide (n < 1) = true := by simpa using h0
    clear hll
    rw [hr]
    clear hr
    go_enter Tryz.func85, Tryz.ntmps85
    go_wp2_with fail
    go_ret
    exact ⟨rfl, 0, rfl⟩
  · have e0 : decide (n < 1) = false := by simpa using h0
    by_cases hb : 288 < n
    · have hr : checkF l = 1 := by rw [checkF, if_pos (by omega)]
      have e1 : decide (288 < n) = true := by simpa using hb
      clear hll
      rw [hr]
      clear hr
      go_enter Tryz.func85, Tryz.ntmps85
      go_wp2_with fail
      go_ret
      exact ⟨rfl, 0, rfl⟩
    · have e1 : decide (288 < n) = false := by simp; omega
      clear hll
      go_enter Tryz.func85, Tryz.ntmps85
      go_wp2_with fail
      clear e0 e1
      go_loopw [3] (fun i wr => ∃ k : Nat, k ≤ n ∧ i = .int .i64 k ∧ Hid ((l.take k).all okLen = true) ∧ Hid (Dr w wr)) (fun i _ => n - (intOf i).toNat)
      case atStart => exact ⟨0, by omega, rfl, Lib.hid (by simp), ⟨0, rfl⟩⟩
      case round =>
        obtain ⟨k, hk, rfl, HA, HD⟩ := hrel
        by_cases hlt : k < n
        · obtain ⟨q, rfl⟩ := HD.out
          clear HD
          obtain ⟨b, o, rfl, hc⟩ := HL.out.at hlt
          have asn := all_snoc l k (by have := HLL.out; omega)
          rw [HA.out] at asn
          have AS := Lib.hid asn
          clear asn
          by_cases hneg : nth l k < 0
          · have e1 : decide (nth l k < 0) = true := by simpa using hneg
            have hok : okLen (nth l k) = false := by simp [okLen]; omega
            have hr : checkF l = 1 := by rw [checkF, if_neg (by have := HLL.out; omega), if_pos (all_hit l k (by have := HLL.out; omega) hok)]
            have HR := Lib.hid hr
            clear hr hok
            go_wp2_with fail
            go_ret
            rw [HR.out]
            exact ⟨rfl, _, rfl⟩
          · have e1 : decide (nth l k < 0) = false := by simpa using hneg
            by_cases hbig : 15 < nth l k
            · have e2 : decide (15 < nth l k) = true := by simpa using hbig
              have hok : okLen (nth l k) = false := by simp [okLen]; omega
              have hr : checkF l = 1 := by rw [checkF, if_neg (by have := HLL.out; omega), if_pos (all_hit l k (by have := HLL.out; omega) hok)]
              have HR := Lib.hid hr
              clear hr hok
              go_wp2_with fail
              go_ret
              rw [HR.out]
              exact ⟨rfl, _, rfl⟩
            · have e2 : decide (15 < nth l k) = false := by simpa using hbig
              have hok : okLen (nth l k) = true := by simp [okLen]; omega
              have HOK := Lib.hid hok
              clear hok
              go_wp2_with fail
              go_roundw
              case rel => exact ⟨k + 1, by omega, by go_num, Lib.hid (AS.out.trans (by rw [HOK.out]; rfl)), ⟨_, rfl⟩⟩
              case measure => simp [intOf]; omega
        · obtain rfl : k = n := by omega
          have htk : l.take k = l := List.take_of_length_le (by have := HLL.out; omega)
          rw [htk] at HA
          have hlen := HLL.out
          have hm := measF_le l HA.out
          have HR : Hid (checkF l = if 32768 < measF l then 30 else if measF l = 32768 then 0 else if usedF l = 1 ∧ measF l = 16384 then 0 else 31) := by
            show _ = _
            rw [checkF, if_neg (by omega), if_neg (by rw [HA.out]; simp)]
          rw [hlen] at hm
          clear htk hlen
          go_wp2_with fail
          refine (measure_calls _ _ _ _ l (HL.out.keeps (HD.out.keeps (S := [])) (off_nil _)) (by omega) HA.out).mono ?_
          rintro e w1 ⟨rfl, hd1⟩
          have HD1 := Lib.hid (HD.out.trans hd1)
          clear HD hd1
          by_cases c1 : 32768 < measF l
          · have e1 : decide ((32768 : Int) < (measF l : Int)) = true := by simp; omega
            go_wp2_with fail
            go_ret
            rw [HR.out, if_pos c1]
            exact ⟨rfl, HD1.out⟩
          · have e1 : decide ((32768 : Int) < (measF l : Int)) = false := by simp; omega
            by_cases c2 : measF l = 32768
            · have e2 : ((measF l : Int) == 32768) = true := by simp; omega
              have C2 := Lib.hid c2
              clear c2
              go_wp2_with fail
              go_ret
              rw [HR.out, if_neg c1, if_pos C2.out]
              exact ⟨rfl, HD1.out⟩
            · have e2 : ((measF l : Int) == 32768) = false := by simp; omega
              go_wp2_with fail
              refine (used_calls _ _ _ _ l (HL.out.keeps (HD1.out.keeps (S := [])) (off_nil _)) (by omega)).mono ?_
              rintro e w2 ⟨rfl, hd2⟩
              have HD2 := Lib.hid (HD1.out.trans hd2)
              clear HD1 hd2
              by_cases c3 : usedF l = 1
              · have e3 : ((usedF l : Int) == 1) = true := by simp; omega
                have C3 := Lib.hid c3
                clear c3
                by_cases c4 : measF l = 16384
                · have e4 : ((measF l : Int) == 16384) = true := by simp; omega
                  have C4 := Lib.hid c4
                  have C2 := Lib.hid c2
                  clear c4 c2
                  go_wp2_with fail
                  go_ret
                  rw [HR.out, if_neg c1, if_neg C2.out, if_pos ⟨C3.out, C4.out⟩]
                  exact ⟨rfl, HD2.out⟩
                · have e4 : ((measF l : Int) == 16384) = false := by simp; omega
                  go_wp2_with fail
                  go_ret
                  rw [HR.out, if_neg c1, if_neg c2, if_neg (fun h => c4 h.2)]
                  exact ⟨rfl, HD2.out⟩
              · have e3 : ((usedF l : Int) == 1) = false := by simp; omega
                go_wp2_with fail
                go_ret
                rw [HR.out, if_neg c1, if_neg c2, if_neg (fun h => c3 h.1)]
                exact ⟨rfl, HD2.out⟩
end Go.Proofs.YtkpabdjniiepkaaGreatDoor

set_option linter.unusedVariables false
set_option linter.unusedSimpArgs false
namespace Go.Proofs.YtkpabdjniiepkaaGreatDoor
open Go.RowKit
theorem slice_toI (w : World) (A : Option Addr) (n c l : Nat) (li : Int) (hli : li = l) (hl : l ≤ n) (hc : CapOk A n c) :
    (Instr.slice 23 (.slice A n c) none (some (.int .i64 li)) none).run Tryz.prog w = .ok (.slice A l c) w := by
  obtain ⟨h1, -, h3⟩ := hc
  subst hli
  rw [run_slice_h w 23 A n c (by kernel_rfl) .i64 l (by omega) (by omega)]
  have hs : (sizeOf (Tryz.prog.elem 23)).run Tryz.prog w = .ok 1 w := by kernel_rfl
  rw [hs]
  by_cases h0 : c = 0
  · subst h0
    simp [Result.andThen, sliced]
  · obtain ⟨b, o, rfl⟩ := h3 (by omega)
    simp [Result.andThen, sliced, add_plain2]
theorem slice_fromI (w : World) (A : Option Addr) (n c l : Nat) (li : Int) (hli : li = l) (hl : l ≤ n) :
    (Instr.slice 23 (.slice A n c) (some (.int .i64 li)) none none).run Tryz.prog w = .ok (.slice (cutA A l c) (n - l) (c - l)) w := by
  subst hli
  rw [run_slice_l w 23 A n c (by kernel_rfl) .i64 l (by omega) (by omega)]
  have hs : (sizeOf (Tryz.prog.elem 23)).run Tryz.prog w = .ok 1 w := by kernel_rfl
  rw [hs]
  simp [Result.andThen, sliced, cutA]
theorem places_calls (w : World) : Calls Tryz.prog 84 #[] w fun e w' => ∃ go, e = .returned (.slice (some ⟨go, 0, none⟩) 19 19) ∧ Blk w' go 3 (ints .i64 orderL) ∧ w.heap.size ≤ go ∧ Below w.heap.size w w' := by
  have HB : Hid (Blk (w.alloc (.cells (ints .i64 orderL).toArray 3)) w.heap.size 3 (ints .i64 orderL)) := Lib.hid (blk_new w _ _)
  go_enter Tryz.func84, Tryz.ntmps84
  go_wp2_with fail
  go_ret
  exact ⟨_, rfl, HB.out, Nat.le_refl _, (Below.refl _ _).alloc (Nat.le_refl _) _⟩
theorem RD.keepS {w w' : World} {g M c p most : Nat} {B : Option Addr} {bs out : List Int} {e : Int} {ob : Option Nat} {S : List Nat} (h : RD w g B M c bs p out most e ob) (hk : Keeps S w w') (hS : ∀ x ∈ S, g < x ∧ ob ≠ some x) : RD w' g B M c bs p out most e ob := by
  obtain ⟨v, h1, h2, h3⟩ := h.box
  exact ⟨⟨v, h1.keeps hk (fun hm => by have := (hS g hm).1; omega), own_keeps h2 hk (fun x hx hm => (hS x hm).2 (by rw [← h3]; exact hx)), h3⟩, h.ri.keeps hk (fun a ha hm => by have := h.lo a ha; have := (hS a.block hm).1; omega), h.lo, h.len, h.le, h.cap, h.mx, h.sz⟩
theorem RD.under {w w' : World} {g M c p most b : Nat} {B : Option Addr} {bs out : List Int} {e : Int} {ob : Option Nat} (h : RD w g B M c bs p out most e ob) (hk : Below b w w') (hg : g < b) (ho : ∀ x, ob = some x → x < b) : RD w' g B M c bs p out most e ob := by
  obtain ⟨v, h1, h2, h3⟩ := h.box
  refine ⟨⟨v, (hk.block g hg).trans h1, ?_, h3⟩, h.ri.below hk (fun a ha => by have := h.lo a ha; omega), h.lo, h.len, h.le, h.cap, h.mx, h.sz⟩
  obtain ⟨a, r⟩ := h2
  refine ⟨a, ?_⟩
  rcases r with r | ⟨b1, cap, cur, hv, hb2, hh, r⟩
  · exact .inl r
  · exact .inr ⟨b1, cap, cur, hv, hb2, (hk.block b1 (ho b1 (by rw [← h3, hv]; rfl))).trans hh, r⟩
theorem RBT.under {w w' : World} {g top n b : Nat} {rs : List (List Int)} (h : RBT w g top n rs) (hk : Below b w w') (hb : top ≤ b) : RBT w' g top n rs := by
  obtain ⟨h0, hg, ht, vs, h1, h2, h3⟩ := h
  refine ⟨h0, hg, Nat.le_trans ht hk.size, vs, h1, (hk.block g (by omega)).trans h2, fun j v hv => ⟨?_, (h3 j v hv).2⟩⟩
  obtain ⟨a, r⟩ := (h3 j v hv).1
  refine ⟨a, ?_⟩
  rcases r with r | ⟨b1, cap, cur, hvv, hb2, hh, r⟩
  · exact .inl r
  · exact .inr ⟨b1, cap, cur, hvv, hb2, (hk.block b1 (by have := (h3 j v hv).2 b1 (by rw [hvv]; rfl); omega)).trans hh, r⟩
/-- What reading the lists of kind 2 gives. -/
def RHeadP (w : World) (g : Nat) (B : Option Addr) (M c : Nat) (bs : List Int) (p : Nat) (out : List Int) (most : Nat) (ob : Option Nat) (h : List Int × List Int × Nat × Int) (r : Ending) (w' : World) : Prop :=
  ∃ (q : Nat) (v1 v2 : Value), r = .returned (.tuple #[v1, v2]) ∧ RD w' g B M c bs q out most (codesE h) ob ∧ Keeps [g] w w' ∧
    (codesE h = 0 → q = p + h.2.2.1 ∧ ∃ A1 c1 A2 c2, v1 = .slice A1 h.1.length c1 ∧ v2 = .slice A2 h.2.1.length c2 ∧ RI .i64 w' A1 h.1.length h.1 ∧ RI .i64 w' A2 h.2.1.length h.2.1 ∧ (∀ a, A2 = some a → w.heap.size ≤ a.block ∧ a.block < w'.heap.size))
theorem rheadP_err {w w' : World} {g M c p q most : Nat} {B : Option Addr} {bs out : List Int} {ob : Option Nat} {h : List Int × List Int × Nat × Int} {e : Int} {v1 v2 : Value} (hh : codesE h = e) (he : e ≠ 0) (hr : RD w' g B M c bs q out most e ob) (hk : Keeps [g] w w') :
    RHeadP w g B M c bs p out most ob h (.returned (.tuple #[v1, v2])) w' := by
  subst hh; exact ⟨q, v1, v2, rfl, hr, hk, fun h => absurd h he⟩
set_option maxRecDepth 100000 in
set_option maxHeartbeats 4000000 in
theorem rhead_calls (w : World) (g : Nat) (B : Option Addr) (M c : Nat) (bs : List Int) (p : Nat) (out : List Int) (most : Nat) (ob : Option Nat) (h : RD w g B M c bs p out most 0 ob) :
    Calls Tryz.prog 57 #[.pointer (some ⟨g, 0, none⟩)] w (RHeadP w g B M c bs p out most ob (headF bs p)) := by
  have H := Lib.hid h
  have HML := Lib.hid h.len
  have HGL := Lib.hid h.lt
  have HOL := Lib.hid h.oblo
  have hsz := h.sz
  clear h
  go_enter Tryz.func57, Tryz.ntmps57
  go_wp2_with fail
  refine (rtake_calls w g B M c bs p out most 0 ob 5 5 rfl H.out (by omega)).mono ?_
  rintro _ w1 ⟨v1, q1, e1, rfl, h1, k1, v10, v11, -, hc1⟩
  have H1 := Lib.hid h1
  have K1 := Lib.hid k1
  rw [show (2 : Int) ^ 5 = 32 from rfl] at v11
  clear h1 k1 H
  go_wp2_with fail
  refine (rtake_calls w1 g B M c bs q1 out most e1 ob 5 5 rfl H1.out (by omega)).mono ?_
  rintro _ w2 ⟨v2, q2, e2, rfl, h2, k2, v20, v21, -, hc2⟩
  have H2 := Lib.hid h2
  have K2 := Lib.hid (K1.out.trans k2)
  rw [show (2 : Int) ^ 5 = 32 from rfl] at v21
  clear h2 k2 H1 K1
  go_wp2_with fail
  refine (rtake_calls w2 g B M c bs q2 out most e2 ob 4 4 rfl H2.out (by omega)).mono ?_
  rintro _ w3 ⟨v3, q3, e3, rfl, h3, k3, v30, v31, -, hc3⟩
  have H3 := Lib.hid h3
  have K3 := Lib.hid (K2.out.trans k3)
  rw [show (2 : Int) ^ 4 = 16 from rfl] at v31
  clear h3 k3 H2 K2
  have HC : Hid ((p + 14 ≤ M ∧ e3 = 0 ∧ v1 = numB bs p 5 ∧ v2 = numB bs (p + 5) 5 ∧ v3 = numB bs (p + 10) 4 ∧ q3 = p + 14) ∨ (M < p + 14 ∧ e3 = 55)) := Lib.hid (by
    rcases hc1 with ⟨-, a1, rfl, rfl, rfl⟩ | ⟨-, a1, rfl, rfl, rfl⟩ | ⟨a1, _⟩
    · rcases hc2 with ⟨-, a2, rfl, rfl, rfl⟩ | ⟨-, a2, rfl, rfl, rfl⟩ | ⟨a2, _⟩
      · rcases hc3 with ⟨-, a3, rfl, rfl, rfl⟩ | ⟨-, a3, rfl, rfl, rfl⟩ | ⟨a3, _⟩
        · exact .inl ⟨by omega, rfl, rfl, rfl, rfl, rfl⟩
        · exact .inr ⟨by omega, rfl⟩
        · exact absurd rfl a3
      · rcases hc3 with ⟨a3, _⟩ | ⟨a3, _⟩ | ⟨-, rfl, _⟩
        · exact absurd a3 (by decide)
        · exact absurd a3 (by decide)
        · exact .inr ⟨by omega, rfl⟩
      · exact absurd rfl a2
    · rcases hc2 with ⟨a2, _⟩ | ⟨a2, _⟩ | ⟨-, rfl, _⟩
      · exact absurd a2 (by decide)
      · exact absurd a2 (by decide)
      · rcases hc3 with ⟨a3, _⟩ | ⟨a3, _⟩ | ⟨-, rfl, _⟩
        · exact absurd a3 (by decide)
        · exact absurd a3 (by decide)
        · exact .inr ⟨by omega, rfl⟩
    · exact absurd rfl a1)
  clear hc1 hc2 hc3
  obtain ⟨lit, hlit⟩ : ∃ lit : Nat, 257 + v1 = (lit : Int) := ⟨(257 + v1).toNat, by omega⟩
  obtain ⟨dist, hdist⟩ : ∃ dist : Nat, 1 + v2 = (dist : Int) := ⟨(1 + v2).toNat, by omega⟩
  obtain ⟨mn, hmn⟩ : ∃ mn : Nat, 4 + v3 = (mn : Int) := ⟨(4 + v3).toNat, by omega⟩
  have hmn19 : mn ≤ 19 := by omega
  have hlb : lit ≤ 288 := by omega
  have hlb2 : 257 ≤ lit := by omega
  have hdb : dist ≤ 32 := by omega
  have hdb1 : 1 ≤ dist := by omega
  have HVV : Hid (v1 = (lit : Int) - 257 ∧ v2 = (dist : Int) - 1 ∧ v3 = (mn : Int) - 4) := Lib.hid ⟨by omega, by omega, by omega⟩
  clear v10 v11 v20 v21 v30 v31
  have HCB : Hid (∀ is : Bool, is = (decide (286 < lit) || decide (30 < dist)) → ((badE e3 is = 0 ∧ p + 14 ≤ M ∧ q3 = p + 14 ∧ lit = litF bs p ∧ dist = distF bs p ∧ mn = manyF bs p ∧ ¬ (29 < numB bs p 5 ∨ 29 < numB bs (p + 5) 5)) ∨
      (badE e3 is ≠ 0 ∧ codesE (headF bs p) = badE e3 is))) := Lib.hid (fun is his => by
    have hM := HML.out
    obtain ⟨w1, w2, w3⟩ := HVV.out
    rcases HC.out with ⟨a1, rfl, a2, a3, a4, a5⟩ | ⟨a1, rfl⟩
    · by_cases hb : 286 < lit ∨ 30 < dist
      · have hi : is = true := by rw [his]; simpa using hb
        subst hi
        rw [show badE 0 true = 52 from rfl]
        exact .inr ⟨by decide, codes_e2 (by omega) (by omega)⟩
      · have hi : is = false := by rw [his]; simp only [Bool.or_eq_false_iff, decide_eq_false_iff_not]; omega
        subst hi
        rw [show badE 0 false = 0 from rfl]
        refine .inl ⟨rfl, a1, a5, ?_, ?_, ?_, by omega⟩
        · unfold litF; omega
        · unfold distF; omega
        · have hnn := (numB_lt bs (p + 10) 4).1
          show mn = (numB bs (p + 10) 4).toNat + 4
          omega
    · rw [show badE 55 is = 55 from if_neg (by rintro ⟨h, _⟩; exact absurd h (by decide))]
      exact .inr ⟨by decide, codes_e1 (by omega)⟩)
  clear HC HVV
  go_upto_region 4 with (fail)
  clear hlit hdist hmn
  go_cut [32] (fun v32 wc => ∃ e4 : Int, Hid ((e4 = 0 ∧ p + 14 ≤ M ∧ q3 = p + 14 ∧ lit = litF bs p ∧ dist = distF bs p ∧ mn = manyF bs p ∧ ¬ (29 < numB bs p 5 ∨ 29 < numB bs (p + 5) 5)) ∨ (e4 ≠ 0 ∧ codesE (headF bs p) = e4)) ∧
    Hid (RD wc g B M c bs q3 out most e4 ob) ∧ Hid (Keeps [g] w wc))
  case first =>
    by_cases b1 : 286 < lit
    · have x1 : decide (286 < lit) = true := by simpa using b1
      have x1' : decide ((286 : Int) < (lit : Int)) = true := by simp; omega
      have HX := Lib.hid (HCB.out true (by rw [x1]; rfl))
      clear HCB
      go_wp2_with fail
      refine (rbad_calls w3 g B M c bs q3 out most e3 ob true H3.out).mono ?_
      rintro _ w4 ⟨rfl, h4, k4⟩
      have H4 := Lib.hid h4
      have K4 := Lib.hid (K3.out.trans k4)
      clear h4 k4
      generalize badE e3 true = e4 at *
      go_wp2_with fail
      go_meet
      exact ⟨e4, HX, H4, K4⟩
    have x1 : decide (286 < lit) = false := by simpa using b1
    have x1' : decide ((286 : Int) < (lit : Int)) = false := by simp; omega
    by_cases b2 : 30 < dist
    · have x2 : decide (30 < dist) = true := by simpa using b2
      have x2' : decide ((30 : Int) < (dist : Int)) = true := by simp; omega
      have HX := Lib.hid (HCB.out true (by rw [x1, x2]; rfl))
      clear HCB
      go_wp2_with fail
      refine (rbad_calls w3 g B M c bs q3 out most e3 ob true H3.out).mono ?_
      rintro _ w4 ⟨rfl, h4, k4⟩
      have H4 := Lib.hid h4
      have K4 := Lib.hid (K3.out.trans k4)
      clear h4 k4
      generalize badE e3 true = e4 at *
      go_wp2_with fail
      go_meet
      exact ⟨e4, HX, H4, K4⟩
    · have x2 : decide (30 < dist) = false := by simpa using b2
      have x2' : decide ((30 : Int) < (dist : Int)) = false := by simp; omega
      have HX := Lib.hid (HCB.out false (by rw [x1, x2]; rfl))
      clear HCB
      go_wp2_with fail
      refine (rbad_calls w3 g B M c bs q3 out most e3 ob false H3.out).mono ?_
      rintro _ w4 ⟨rfl, h4, k4⟩
      have H4 := Lib.hid h4
      have K4 := Lib.hid (K3.out.trans k4)
      clear h4 k4
      generalize badE e3 false = e4 at *
      go_wp2_with fail
      go_meet
      exact ⟨e4, HX, H4, K4⟩
  case rest =>
    obtain ⟨e4, HS4, H4, K4⟩ := hcut
    clear H3 K3 HCB
    have hmk := fun w => make_ints (P := Tryz.prog) w 23 3 .i64 8 Tryz.underlying23 info_int 19 19 rfl (by omega) (by omega)
    obtain ⟨gc, hgc⟩ : ∃ x, x = wc.heap.size := ⟨_, rfl⟩
    obtain ⟨w5, hw5⟩ : ∃ x, x = wc.alloc (.cells (ints .i64 (List.replicate 19 0)).toArray 3) := ⟨_, rfl⟩
    have hk5 : Keeps [] wc w5 := by rw [hw5]; exact (Keeps.refl [] wc).alloc _
    have HC5 : Hid (Blk w5 gc 3 (ints .i64 (cL bs (p + 14) 0))) := by rw [hw5, hgc]; exact Lib.hid (blk_new wc _ _)
    have H5 := Lib.hid (H4.out.keeps hk5)
    have K5 := Lib.hid (K4.out.trans (hk5.mono (by simp)))
    have HGC : Hid (w.heap.size ≤ gc) := Lib.hid (by rw [hgc]; exact K4.out.size)
    go_upto_region 6 with (fail)
    change Code.wp _ _ _ _ (wc.alloc (.cells (ints .i64 (List.replicate 19 0)).toArray 3))
    rw [← hw5, ← hgc]
    clear hw5 hgc hmk hk5 H4 K4
    go_wp2_with fail
    refine (places_calls w5).mono ?_
    rintro _ w6 ⟨go, rfl, hbo, hgo, hb6⟩
    have hk6 := Keeps.of_below hb6 (S := [])
    have HC6 := Lib.hid (HC5.out.keeps hk6 (by simp))
    have H6 := Lib.hid (H5.out.keeps hk6)
    have K6 := Lib.hid (K5.out.trans (hk6.mono (by simp)))
    have HO6 := Lib.hid hbo
    have hgogc : gc < go := Nat.lt_of_lt_of_le HC5.out.lt hgo
    have hggc : g < gc := by have := HGL.out; have := HGC.out; omega
    have HOBC : Hid (ob ≠ some gc ∧ ob ≠ some go) := Lib.hid ⟨fun h => by have := (HOL.out gc h).2; have := HGC.out; omega, fun h => by have := (HOL.out go h).2; have := HGC.out; omega⟩
    clear hbo hgo hb6 hk6 HC5 H5 K5
    go_wp2_with fail
    go_loopw [9] (fun iv wr => ∃ (i q : Nat) (e : Int) (cs : List Int), i ≤ mn ∧ iv = .int .i64 i ∧ cs.length = 19 ∧
      Hid ((e = 0 ∧ p + 14 + 3 * i ≤ M ∧ q = p + 14 + 3 * i ∧ cs = cL bs (p + 14) i ∧ lit = litF bs p ∧ dist = distF bs p ∧ mn = manyF bs p ∧ ¬ (29 < numB bs p 5 ∨ 29 < numB bs (p + 5) 5)) ∨ (e ≠ 0 ∧ codesE (headF bs p) = e)) ∧
      Hid (Blk wr gc 3 (ints .i64 cs)) ∧ Hid (RD wr g B M c bs q out most e ob) ∧ Hid (Blk wr go 3 (ints .i64 orderL)) ∧ Hid (Keeps [g] w wr)) (fun iv _ => mn - (intOf iv).toNat)
    case atStart =>
      refine ⟨0, q3, e4, cL bs (p + 14) 0, by omega, rfl, cL_len _ _ _, Lib.hid ?_, HC6, H6, HO6, K6⟩
      rcases HS4.out with ⟨a1, a2, a3, a4, a5, a6, a7⟩ | a
      · exact .inl ⟨a1, by omega, by omega, rfl, a4, a5, a6, a7⟩
      · exact .inr a
    case round =>
      clear HC6 H6 HO6 K6 HS4
      obtain ⟨i, q, e, cs, hi, rfl, hcl, HS, HCS, H, HO, K⟩ := hrel
      obtain ⟨-, -, -, c4, -⟩ := H.out.cells
      by_cases hgo : i < mn ∧ e = 0
      · obtain ⟨hlt, rfl⟩ := hgo
        have e0 : decide (i < mn) = true := by simpa using hlt
        have e0' : decide ((i : Int) < (mn : Int)) = true := by simp; omega
        obtain ⟨o0, o1⟩ := order_lt i (by omega)
        have ho := HO.out.cell i
        rw [show (ints .i64 orderL)[i]? = some (.int .i64 (nth orderL i)) by rw [ints_getElem?]; simp [nth, List.getD, show i < orderL.length by show i < 19; omega]] at ho
        have HCL : Hid (cL bs (p + 14) (i + 1) = (cL bs (p + 14) i).set (nth orderL i).toNat (numB bs (p + 14 + 3 * i) 3)) := Lib.hid rfl
        obtain ⟨o, hoo⟩ : ∃ o : Nat, nth orderL i = o := ⟨(nth orderL i).toNat, by omega⟩
        rw [hoo] at ho o1 HCL
        rw [Int.toNat_natCast] at HCL
        have ho19 : o < 19 := by omega
        clear hoo o0 o1
        have s1 : (0 : Int) ≤ (o : Int) := by omega
        have s2 : (o : Int) < 19 := by omega
        have s3 : IntKind.i64.wrap (i : Int) = (i : Int) := IntWalk.i64_in _ (by omega)
        have s4 : IntKind.i64.wrap (o : Int) = (o : Int) := IntWalk.i64_in _ (by omega)
        have s5 : (0 : Int) ≤ (i : Int) := by omega
        have s6 : (i : Int) < 19 := by omega
        go_wp2_with fail
        clear c4
        go_region_with (first | (go_at_call 53; refine (rtake_calls wr.drew g B M c bs q out most 0 ob 3 3 rfl (H.out.keeps (Keeps.refl [] wr).drew) (by omega)).mono ?_; rintro _ w7 ⟨v, q', e', rfl, hh7, hk7, hv0, hv1, -, hc7⟩; have ho7 := hk7.cell (p := ⟨go, i, none⟩) (by simp; omega) ((Keeps.refl [] wr).drew.cell (by simp) ho); have hb7 := (HCS.out.keeps (Keeps.refl [] wr).drew (by simp)).keeps hk7 (by simp; omega); have hc8 := hb7.cell o; have hf8 := hb7.frozen o; rw [show (ints .i64 cs)[o]? = some (.int .i64 (nth cs o)) by rw [ints_getElem?]; simp [nth, List.getD, show o < cs.length by omega]] at hc8))
        all_goals (
          have ks : Keeps [gc] w7 (w7.setCell ⟨gc, o, none⟩ (.int .i64 v)) := (Keeps.refl [gc] w7).setCell (p := ⟨gc, o, none⟩) (Or.inl (by simp)) _
          have HCS' : Hid (Blk (w7.setCell ⟨gc, o, none⟩ (.int .i64 v)) gc 3 (ints .i64 (cs.set o v))) := Lib.hid (by
            have := hb7.set o (.int .i64 v)
            rwa [show (ints .i64 cs).set o (.int .i64 v) = ints .i64 (cs.set o v) by simp [ints, List.map_set]] at this)
          have H' := Lib.hid (hh7.keepS ks (fun x hx => by rw [List.mem_singleton.1 hx]; exact ⟨hggc, HOBC.out.1⟩))
          have HO' := Lib.hid (((HO.out.keeps (Keeps.refl [] wr).drew (by simp)).keeps hk7 (by simp; omega)).keeps ks (by simp; omega))
          have K' := Lib.hid ((K.out.trans (((Keeps.refl [g] wr).drew).trans hk7)).setCell (p := ⟨gc, o, none⟩) (Or.inr HGC.out) (.int .i64 v))
          have HS' : Hid ((e' = 0 ∧ p + 14 + 3 * (i + 1) ≤ M ∧ q' = p + 14 + 3 * (i + 1) ∧ cs.set o v = cL bs (p + 14) (i + 1) ∧ lit = litF bs p ∧ dist = distF bs p ∧ mn = manyF bs p ∧ ¬ (29 < numB bs p 5 ∨ 29 < numB bs (p + 5) 5)) ∨ (e' ≠ 0 ∧ codesE (headF bs p) = e')) := Lib.hid (by
            have hM := HML.out
            rcases HS.out with ⟨-, a1, rfl, rfl, a4, a5, a6, a7⟩ | ⟨a, _⟩
            · rcases hc7 with ⟨-, b1, rfl, rfl, rfl⟩ | ⟨-, b1, rfl, rfl, rfl⟩ | ⟨b, _⟩
              · exact .inl ⟨rfl, by omega, by omega, HCL.out.symm, a4, a5, a6, a7⟩
              · exact .inr ⟨by decide, codes_e3 (by omega) a7 (by rw [← a6]; omega)⟩
              · exact absurd rfl b
            · exact absurd rfl a)
          clear hb7 hh7 hk7 hc8 hf8 ho7 hc7 hv0 hv1 ks HS HCS H HO K ho
          go_wp2_with fail)
        all_goals go_roundw
        all_goals first
          | exact ⟨i + 1, q', e', cs.set o v, by omega, by go_num, by rw [List.length_set]; exact hcl, HS', HCS', H', HO', K'⟩
          | (simp [intOf]; omega)
      · -- the loop is left
        by_cases hez : e ≠ 0
        · have HNE := Lib.hid hez
          have e9 : (e == 0) = false := by simpa using hez
          clear hgo hez
          by_cases hlt : i < mn
          · have e0 : decide (i < mn) = true := by simpa using hlt
            have e0' : decide ((i : Int) < (mn : Int)) = true := by simp; omega
            have hne := HS.out
            have HBC := HCS.out
            have hric : RI .i64 wr (some ⟨gc, 0, none⟩) 19 cs := by
              have := Blk.ri (xs := cs) (ys := []) (k := .i64) (by simpa using HBC)
              rwa [hcl] at this
            have HRC := Lib.hid hric
            have HE : Hid (codesE (headF bs p) = e) := Lib.hid (by
              rcases hne with ⟨a, _⟩ | ⟨_, a⟩
              · exact absurd a HNE.out
              · exact a)
            clear hne HBC hric HS HCS HO
            go_wp2_with fail
            clear c4
            refine (refCheck_calls wr (some ⟨gc, 0, none⟩) 19 19 cs HRC.out (by omega)).mono ?_
            rintro _ w7 ⟨rfl, hd7⟩
            have H7 := Lib.hid (H.out.keeps (hd7.keeps (S := [])))
            have K7 := Lib.hid (K.out.trans (hd7.keeps (S := [g])))
            clear hd7 H K
            generalize checkF cs = y at *
            go_wp2_with fail
            refine (rbad_calls w7 g B M c bs q out most e ob (y != 0) H7.out).mono ?_
            rintro _ w8 ⟨rfl, h8, k8⟩
            rw [show badE e (y != 0) = e from if_neg (fun h => HNE.out h.1)] at h8
            have H8 := Lib.hid h8
            have K8 := Lib.hid (K7.out.trans k8)
            obtain ⟨-, -, -, c4, -⟩ := h8.cells
            have e9 : (e != 0) = true := by simpa using HNE.out
            clear h8 k8 H7 K7
            go_wp2_with fail
            go_ret2
            exact rheadP_err HE.out HNE.out H8.out K8.out
          · have e0 : decide (i < mn) = false := by simpa using hlt
            have e0' : decide ((i : Int) < (mn : Int)) = false := by simp; omega
            have hne := HS.out
            have HBC := HCS.out
            have hric : RI .i64 wr (some ⟨gc, 0, none⟩) 19 cs := by
              have := Blk.ri (xs := cs) (ys := []) (k := .i64) (by simpa using HBC)
              rwa [hcl] at this
            have HRC := Lib.hid hric
            have HE : Hid (codesE (headF bs p) = e) := Lib.hid (by
              rcases hne with ⟨a, _⟩ | ⟨_, a⟩
              · exact absurd a HNE.out
              · exact a)
            clear hne HBC hric HS HCS HO
            go_wp2_with fail
            clear c4
            refine (refCheck_calls wr (some ⟨gc, 0, none⟩) 19 19 cs HRC.out (by omega)).mono ?_
            rintro _ w7 ⟨rfl, hd7⟩
            have H7 := Lib.hid (H.out.keeps (hd7.keeps (S := [])))
            have K7 := Lib.hid (K.out.trans (hd7.keeps (S := [g])))
            clear hd7 H K
            generalize checkF cs = y at *
            go_wp2_with fail
            refine (rbad_calls w7 g B M c bs q out most e ob (y != 0) H7.out).mono ?_
            rintro _ w8 ⟨rfl, h8, k8⟩
            rw [show badE e (y != 0) = e from if_neg (fun h => HNE.out h.1)] at h8
            have H8 := Lib.hid h8
            have K8 := Lib.hid (K7.out.trans k8)
            obtain ⟨-, -, -, c4, -⟩ := h8.cells
            have e9 : (e != 0) = true := by simpa using HNE.out
            clear h8 k8 H7 K7
            go_wp2_with fail
            go_ret2
            exact rheadP_err HE.out HNE.out H8.out K8.out
        obtain rfl : e = 0 := Classical.not_not.1 hez
        obtain rfl : i = mn := by
          by_cases h : i < mn
          · exact absurd ⟨h, rfl⟩ hgo
          · omega
        clear hgo hez
        have e0 : decide (i < i) = false := by simp
        have e0' : decide ((i : Int) < (i : Int)) = false := by simp
        obtain ⟨z1, z2, z3, z4, z5, z6, z7⟩ : p + 14 + 3 * i ≤ M ∧ q = p + 14 + 3 * i ∧ cs = codesH bs p ∧ lit = litF bs p ∧ dist = distF bs p ∧ i = manyF bs p ∧ ¬ (29 < numB bs p 5 ∨ 29 < numB bs (p + 5) 5) := by
          rcases HS.out with ⟨-, a1, a2, a3, a4, a5, a6, a7⟩ | ⟨a, _⟩
          · exact ⟨a1, a2, by rw [a3, a6]; rfl, a4, a5, a6, a7⟩
          · exact absurd rfl a
        have HB14 : Hid (¬ 8 * bs.length < p + 14) := Lib.hid (by have := HML.out; omega)
        have HB3 : Hid (¬ 8 * bs.length < p + 14 + 3 * manyF bs p) := Lib.hid (by have := HML.out; omega)
        have HZ7 := Lib.hid z7
        have HCD := Lib.hid z3
        have HLI := Lib.hid z4
        have HDI := Lib.hid z5
        have HQ0 : Hid (q = p + 14 + 3 * manyF bs p) := Lib.hid (by omega)
        have hqM : q ≤ M := by omega
        have hric : RI .i64 wr (some ⟨gc, 0, none⟩) 19 cs := by
          have := Blk.ri (xs := cs) (ys := []) (k := .i64) (by simpa using HCS.out)
          rwa [hcl] at this
        have HRC := Lib.hid hric
        have HCL := Lib.hid hcl
        clear z1 z2 z3 z4 z5 z6 z7 HS HCS HO hric hcl
        go_wp2_with fail
        clear c4
        refine (refCheck_calls wr (some ⟨gc, 0, none⟩) 19 19 cs HRC.out (by omega)).mono ?_
        rintro _ w7 ⟨rfl, hd7⟩
        have hk7 := hd7.keeps (S := [])
        have H7 := Lib.hid (H.out.keeps hk7)
        have K7 := Lib.hid (K.out.trans (hd7.keeps (S := [g])))
        have HRC7 := Lib.hid (HRC.out.keeps hk7 (off_nil _))
        clear hd7 hk7 H K HRC
        by_cases hck : checkF cs ≠ 0
        · have HE : Hid (codesE (headF bs p) = 52) := Lib.hid (codes_e4 HB14.out HZ7.out HB3.out (by rw [← HCD.out]; exact hck))
          have e9 : (checkF cs != 0) = true := by simpa using hck
          generalize checkF cs = y at *
          go_wp2_with fail
          refine (rbad_calls w7 g B M c bs q out most 0 ob true H7.out).mono ?_
          rintro _ w8 ⟨rfl, h8, k8⟩
          rw [show badE 0 true = 52 from rfl] at h8
          have H8 := Lib.hid h8
          have K8 := Lib.hid (K7.out.trans k8)
          obtain ⟨-, -, -, c4, -⟩ := h8.cells
          clear h8 k8 H7 K7 e9 hck
          go_wp2_with fail
          go_ret2
          exact rheadP_err HE.out (by decide) H8.out K8.out
        replace hck : checkF cs = 0 := Classical.not_not.1 hck
        have HCK := Lib.hid hck
        rw [hck]
        clear hck
        go_wp2_with fail
        refine (rbad_calls w7 g B M c bs q out most 0 ob false H7.out).mono ?_
        rintro _ w8 ⟨rfl, h8, k8⟩
        rw [show badE 0 false = 0 from rfl] at h8
        have H8 := Lib.hid h8
        have K8 := Lib.hid (K7.out.trans k8)
        have HRC8 := Lib.hid (HRC7.out.keeps k8 (fun a ha hm => by
          injection ha with ha
          subst ha
          have := List.mem_singleton.1 hm
          simp only [] at this
          omega))
        obtain ⟨-, -, -, c4, -⟩ := h8.cells
        clear h8 k8 H7 K7 HRC7
        go_wp2_with fail
        clear c4
        refine (rows_calls w8 (some ⟨gc, 0, none⟩) 19 19 cs HRC8.out (by omega) (check_ok HCK.out).2).mono ?_
        rintro _ w9 ⟨rfl, hr9, hb9⟩
        have hk9 := Keeps.of_below hb9 (S := [])
        have H9 := Lib.hid (H8.out.keeps hk9)
        have K9 := Lib.hid (K8.out.trans (hk9.mono (by simp)))
        have HR9 := Lib.hid hr9.top
        have HW8 : Hid (w.heap.size ≤ w8.heap.size) := Lib.hid K8.out.size
        obtain ⟨g3, hg3⟩ : ∃ x, x = w8.heap.size := ⟨_, rfl⟩
        obtain ⟨b0, hb0⟩ : ∃ x, x = w9.heap.size := ⟨_, rfl⟩
        rw [← hg3, ← hb0] at HR9
        rw [← hg3]
        have hgg3 : g < g3 := by have := H8.out.lt; omega
        have HB0 : Hid (g < b0 ∧ (∀ x, ob = some x → x < b0) ∧ w.heap.size ≤ b0) := Lib.hid (by
          have h1 := HGL.out
          have h2 := HW8.out
          have h3 := hk9.size
          exact ⟨by omega, fun x hx => by have := (HOL.out x hx).2; omega, by omega⟩)
        have HAPX : Hid (Apart g3 b0 ob) := Lib.hid (fun x hx => .inl (by have := (HOL.out x hx).2; have := HW8.out; omega))
        have hbz : b0 ≤ w9.heap.size := by omega
        have HRDR : Hid (readR bs p = stepsF cs bs ((lit + dist : Nat) : Int) (lit + dist) [] q) := Lib.hid (by
          unfold readR; rw [← HCD.out, ← HLI.out, ← HDI.out, ← HQ0.out])
        have HE5 : Hid (∀ er, (readR bs p).2.2 = er → er ≠ 0 → codesE (headF bs p) = endF er 52) := Lib.hid (fun er h1 h2 => codes_e5 HB14.out HZ7.out HB3.out (by rw [← HCD.out]; exact HCK.out) h1 h2)
        have HHD : Hid (∀ l qq, readR bs p = (l, qq, 0) → headF bs p = (l.take lit, l.drop lit, qq - p, 0)) := Lib.hid (fun l qq hh => by
          rw [HLI.out]; exact head_ok HB14.out HZ7.out HB3.out (by rw [← HCD.out]; exact HCK.out) hh)
        obtain ⟨N, hN⟩ : ∃ N, N = lit + dist := ⟨_, rfl⟩
        rw [← hN] at HRDR
        have hNb : N ≤ 320 := by omega
        have hNl : lit ≤ N := by omega
        have hND : N - lit = dist := by omega
        have s9 : (lit : Int) + (dist : Int) = (N : Int) := by omega
        have HSN := Lib.hid s9
        have HPQ : Hid (p ≤ q) := Lib.hid (by have := HQ0.out; omega)
        clear hr9 hb9 hk9 hg3 hb0 H8 K8 HRC8 hN HCD HB14 HB3 HZ7 HLI HDI HQ0
        go_wp2_with fail
        clear s9
        go_loopg [11] (N + 3) (fun k lv wr => ∃ (qq : Nat) (l : List Int) (e : Int), Hid ((e = 0 ∧ qq ≤ 8 * bs.length ∧ p ≤ qq ∧ l.length ≤ N ∧ N - l.length + 1 < k ∧ ∃ f, N ≤ l.length + f ∧ readR bs p = stepsF cs bs (N : Int) f l qq) ∨
          (e = 0 ∧ 0 < k ∧ N < l.length ∧ (readR bs p).2.2 = 41) ∨ (e ≠ 0 ∧ 0 < k ∧ codesE (headF bs p) = e)) ∧ l.length ≤ 1000 ∧ Hid (wr.ownsRow b0 3 1 lv l.length (ints .i64 l)) ∧ Hid (RD wr g B M c bs qq out most e ob) ∧ Hid (Keeps [g] w wr) ∧
          Hid (RBT wr g3 b0 19 (rowsF cs)) ∧ b0 ≤ wr.heap.size)
        case atStart =>
          refine ⟨q, [], 0, Lib.hid (.inl ⟨rfl, by have := HML.out; omega, HPQ.out, by simp, by simp, N, by simp, HRDR.out⟩), by simp, Lib.hid (World.ownsRow_nil _ _ _ _), H9, K9, HR9, hbz⟩
        case round =>
          clear H9 K9 HR9 HRDR hbz
          obtain ⟨qq, l, e, HS, hl1, HLO, H, K, HR, hbz⟩ := hrel
          obtain ⟨-, -, -, c4, -⟩ := H.out.cells
          obtain ⟨lA, lc, rfl⟩ := own_formR HLO.out
          have s9 := HSN.out
          obtain ⟨LN, hLN⟩ : ∃ LN, LN = l.length := ⟨_, rfl⟩
          have HLN := Lib.hid hLN
          rw [← hLN] at hl1 HLO ⊢
          by_cases hgo : LN < N ∧ e = 0
          · obtain ⟨hlt, rfl⟩ := hgo
            obtain ⟨hq8, hpq, hk, fu, hfu, hrd⟩ : qq ≤ 8 * bs.length ∧ p ≤ qq ∧ N - LN + 1 < gk ∧ ∃ f, N ≤ LN + f ∧ readR bs p = stepsF cs bs (N : Int) f l qq := by
              rcases HS.out with ⟨-, a1, a2, a3, a4, f, a5, a6⟩ | ⟨-, -, a, _⟩ | ⟨a, _⟩
              · exact ⟨a1, a2, by rw [hLN]; exact a4, f, by rw [hLN]; exact a5, a6⟩
              · omega
              · exact absurd rfl a
            obtain ⟨f, rfl⟩ : ∃ f, fu = f + 1 := ⟨fu - 1, by omega⟩
            have HRD : Hid (readR bs p = if (decF cs bs qq).2.1 ≠ 0 then ([], qq, (decF cs bs qq).2.1)
              else if 8 * bs.length < qq + (decF cs bs qq).2.2 + wN (decF cs bs qq).1 then ([], qq, 10)
              else match addF l (decF cs bs qq).1 (numB bs (qq + (decF cs bs qq).2.2) (wN (decF cs bs qq).1)) N with
                | none => ([], qq, 41)
                | some l' => stepsF cs bs (N : Int) f l' (qq + (decF cs bs qq).2.2 + wN (decF cs bs qq).1)) := Lib.hid (by rw [hrd, stepsF, if_neg (by rw [← hLN]; omega)]; rfl)
            have e0 : decide (LN < N) = true := by simpa using hlt
            have e0' : decide ((LN : Int) < (N : Int)) = true := by simp; omega
            clear HS hrd hLN
            go_wp2_with fail
            clear c4 e0 e0'
            refine (rsym_calls wr g B M c bs qq out most ob g3 b0 19 cs 52 H.out HR.out HCK.out (by omega)).mono ?_
            rintro _ w2 ⟨rfl, hh2, k2⟩
            have hbd := dec_bd cs bs qq hq8
            have hfr : FR g ob ob wr w2 := FR.of_keeps k2
            have H2 := Lib.hid hh2
            have K2 := Lib.hid (K.out.trans k2)
            have HR2 := Lib.hid (HR.out.fr hfr hgg3 HAPX.out).1
            have HL2 := Lib.hid (own_keeps HLO.out k2 (fun x hx hm => by have h1 := own_lo HLO.out x hx; have h2 := HB0.out.1; have h3 := List.mem_singleton.1 hm; omega))
            have hbz2 : b0 ≤ w2.heap.size := Nat.le_trans hbz k2.size
            obtain ⟨-, -, -, c4, -⟩ := hh2.cells
            clear hh2 k2 hfr H K HR HLO hbz
            generalize decF cs bs qq = dr at *
            obtain ⟨sy, er, nn⟩ := dr
            simp only [] at H2 hbd HRD c4 ⊢
            rcases hbd with ⟨rfl, j, rfl, hj, hq2⟩ | ⟨her, rfl, rfl⟩
            rotate_left
            · have HC1 := Lib.hid (HE5.out er (by rw [HRD.out, if_pos her]) her)
              have HNE : Hid (endF er 52 ≠ 0) := Lib.hid (fun h => her (endF_zero (by decide) h))
              obtain ⟨y, hy⟩ : ∃ y, y = endF er 52 := ⟨_, rfl⟩
              rw [← hy] at HC1 HNE H2 c4
              have e5 : (y != 0) = true := by simpa using HNE.out
              clear her HRD hy
              go_wp2_with fail
              go_roundg 1
              case measure => omega
              case rel => exact ⟨_, l, y, Lib.hid (.inr (.inr ⟨HNE.out, by omega, HC1.out⟩)), by rw [← HLN.out]; exact hl1, by rw [← HLN.out]; exact HL2, H2, K2, HR2, hbz2⟩
            rw [show endF 0 52 = 0 from rfl] at H2 c4
            have hj19 : j < 19 := by rw [HCL.out] at hj; exact hj
            have HRD2 := Lib.hid (HRD.out.trans (if_neg (by simp)))
            obtain ⟨q2, hq2e⟩ : ∃ x, x = qq + nn := ⟨_, rfl⟩
            rw [← hq2e] at H2 HRD2 hq2
            have hpq2 : p ≤ q2 := by omega
            clear HRD hj hq2e hpq hq8
            by_cases h16 : j < 16
            · have e5 : decide (j < 16) = true := by simpa using h16
              have e5' : decide ((j : Int) < 16) = true := by simp; omega
              have hw : wN (j : Int) = 0 := by unfold wN; rw [if_neg (by omega), if_neg (by omega), if_neg (by omega)]
              have HA : Hid (readR bs p = stepsF cs bs (N : Int) f (l ++ [(j : Int)]) q2) := Lib.hid (by
                have h := HRD2.out
                rw [hw, if_neg (by omega), numB, addF_some (sayF_lit (by omega) (by omega)) (by have := HLN.out; omega)] at h
                exact h)
              have HRI : Hid (RI .i64 (w2.alloc (.cells #[.int .i64 (j : Int)] 3)) (some ⟨w2.heap.size, 0, none⟩) 1 [(j : Int)]) := Lib.hid (ri_one _ _ _ _)
              clear hw HRD2
              go_wp2_with (at_builtin; refine app_intsG rfl (.tmp 97) (.tmp 99) rfl b0 _ LN l rfl (HL2.out.alloc _) (some ⟨w2.heap.size, 0, none⟩) 1 1 [(j : Int)] rfl (by exact HRI.out) ?c1 ?c2 (by omega) ?c3 ?_)
              case c1 => simp
              case c2 => intro ad h; exact ⟨_, _, (Option.some.inj h).symm⟩
              case c3 => simp; omega
              intro v' w4 ho4 hg4
              have hb4 : Below b0 w2 w4 := ((Below.refl b0 w2).alloc hbz2 _).grown hg4 (by simp; omega) (fun x hx => own_lo HL2.out x hx)
              have H4 := Lib.hid (H2.out.under hb4 HB0.out.1 HB0.out.2.1)
              have K4 := Lib.hid (K2.out.under hb4 HB0.out.2.2)
              have HR4 := Lib.hid (HR2.out.under hb4 (Nat.le_refl _))
              have HL4 := Lib.hid ho4
              have hbz4 : b0 ≤ w4.heap.size := Nat.le_trans hbz2 hb4.size
              clear ho4 hg4 hb4 H2 K2 HR2 HL2 HRI c4 hbz2
              go_wp2_with fail
              go_roundg (gk - 1)
              case measure => omega
              case rel => exact ⟨q2, l ++ [(j : Int)], 0, Lib.hid (.inl ⟨rfl, hq2, hpq2, by rw [List.length_append, ← HLN.out, List.length_singleton]; omega, by rw [List.length_append, ← HLN.out, List.length_singleton]; omega, f, by rw [List.length_append, ← HLN.out, List.length_singleton]; omega, HA.out⟩),
                by rw [List.length_append, ← HLN.out, List.length_singleton]; omega, by rw [List.length_append, ← HLN.out, List.length_singleton]; exact HL4, H4, K4, HR4, hbz4⟩
            have e5 : decide (j < 16) = false := by simpa using h16
            have e5' : decide ((j : Int) < 16) = false := by simp; omega
            by_cases hj16 : j = 16
            · subst hj16
              have e6 : (((16 : Nat) : Int) == 16) = true := by decide
              go_wp2_with fail
              clear c4 e5 e5' e6
              refine (rtake_calls w2 g B M c bs q2 out most 0 ob 2 2 rfl H2.out (by omega)).mono ?_
              rintro _ w3 ⟨x, q3, e3, rfl, hh3, k3, x0, x1, -, hc3⟩
              rw [show (2 : Int) ^ 2 = 4 from rfl] at x1
              have H3 := Lib.hid hh3
              have K3 := Lib.hid (K2.out.trans k3)
              have HR3 := Lib.hid (HR2.out.fr (FR.of_keeps (ob := ob) k3) hgg3 HAPX.out).1
              have HL3 := Lib.hid (own_keeps HL2.out k3 (fun x hx hm => by have h1 := own_lo HL2.out x hx; have h2 := HB0.out.1; have h3 := List.mem_singleton.1 hm; omega))
              have hbz3 : b0 ≤ w3.heap.size := Nat.le_trans hbz2 k3.size
              have hw : wN ((16 : Nat) : Int) = 2 := rfl
              have HC3 : Hid ((q2 + 2 ≤ M ∧ e3 = 0 ∧ x = numB bs q2 2 ∧ q3 = q2 + 2) ∨ (e3 = 55 ∧ codesE (headF bs p) = 55)) := Lib.hid (by
                have hM := HML.out
                rcases hc3 with ⟨-, a1, a2, a3, a4⟩ | ⟨-, a1, a2, -, -⟩ | ⟨a, _⟩
                · exact .inl ⟨a1, a2, a3, a4⟩
                · refine .inr ⟨a2, ?_⟩
                  have h := HRD2.out
                  rw [hw, if_pos (by omega)] at h
                  rw [HE5.out 10 (by rw [h]) (by decide)]; rfl
                · exact absurd rfl a)
              clear hh3 k3 hc3 H2 K2 HR2 HL2 hbz2
              obtain ⟨X, hX⟩ : ∃ X : Nat, x = X := ⟨x.toNat, by omega⟩
              subst hX
              have hX4 : X < 4 := by omega
              clear x0 x1
              by_cases hl0 : LN = 0
              · have e7 : ((LN : Int) == 0) = true := by simp; omega
                have HL0 := Lib.hid hl0
                clear hl0
                go_wp2_with fail
                refine (rbad_calls w3 g B M c bs q3 out most e3 ob true H3.out).mono ?_
                rintro _ w4 ⟨rfl, hh4, k4⟩
                have HCC : Hid (badE e3 true ≠ 0 ∧ codesE (headF bs p) = badE e3 true) := Lib.hid (by
                  rcases HC3.out with ⟨a1, rfl, a2, a3⟩ | ⟨rfl, a⟩
                  · refine ⟨by decide, ?_⟩
                    have h := HRD2.out
                    have hle : l = [] := List.eq_nil_of_length_eq_zero (by rw [← HLN.out]; exact HL0.out)
                    have hM := HML.out
                    rw [hw, if_neg (by omega), hle, show ((16 : Nat) : Int) = 16 from rfl, addF_none (sayF_16_none (.inr (.inr rfl)))] at h
                    rw [HE5.out 41 (by rw [h]) (by decide)]; rfl
                  · exact ⟨by decide, a⟩)
                have H4 := Lib.hid hh4
                have K4 := Lib.hid (K3.out.trans k4)
                have HR4 := Lib.hid (HR3.out.fr (FR.of_keeps (ob := ob) k4) hgg3 HAPX.out).1
                have HL4 := Lib.hid (own_keeps HL3.out k4 (fun x hx hm => by have h1 := own_lo HL3.out x hx; have h2 := HB0.out.1; have h3 := List.mem_singleton.1 hm; omega))
                have hbz4 : b0 ≤ w4.heap.size := Nat.le_trans hbz3 k4.size
                obtain ⟨-, -, -, c4, -⟩ := hh4.cells
                generalize badE e3 true = y at *
                have e8 : (y == 0) = false := by simpa using HCC.out.1
                clear hh4 k4 H3 K3 HR3 HL3 hbz3 hw HC3 HRD2
                go_wp2_with fail
                go_roundg 1
                case measure => omega
                case rel => exact ⟨q3, l, y, Lib.hid (.inr (.inr ⟨HCC.out.1, by omega, HCC.out.2⟩)), by rw [← HLN.out]; exact hl1, by rw [← HLN.out]; exact HL4, H4, K4, HR4, hbz4⟩
              · have e7 : ((LN : Int) == 0) = false := by simp; omega
                go_wp2_with fail
                refine (rbad_calls w3 g B M c bs q3 out most e3 ob false H3.out).mono ?_
                rintro _ w4 ⟨rfl, hh4, k4⟩
                rw [show badE e3 false = e3 from if_neg (by simp)] at hh4
                have H4 := Lib.hid hh4
                have K4 := Lib.hid (K3.out.trans k4)
                have HR4 := Lib.hid (HR3.out.fr (FR.of_keeps (ob := ob) k4) hgg3 HAPX.out).1
                have HL4 := Lib.hid (own_keeps HL3.out k4 (fun x hx hm => by have h1 := own_lo HL3.out x hx; have h2 := HB0.out.1; have h3 := List.mem_singleton.1 hm; omega))
                have hbz4 : b0 ≤ w4.heap.size := Nat.le_trans hbz3 k4.size
                obtain ⟨-, -, -, c4, -⟩ := hh4.cells
                clear hh4 k4 H3 K3 HR3 HL3 hbz3
                rcases HC3.out with ⟨a1, rfl, a2, rfl⟩ | ⟨rfl, a⟩
                · obtain ⟨lA', lc', hlv, hlri, -, -⟩ := own_ri HL4.out
                  injection hlv with hlv1 hlv2 hlv3
                  subst hlv1
                  subst hlv3
                  obtain ⟨lb, lo, hla, hlc⟩ := hlri.at (show LN - 1 < LN by omega)
                  subst hla
                  obtain ⟨y, hy⟩ : ∃ y, y = nth l (LN - 1) := ⟨_, rfl⟩
                  rw [← hy] at hlc
                  have HY : Hid (y = l.getD (l.length - 1) 0) := Lib.hid (by rw [hy, HLN.out]; rfl)
                  have HA2 := Lib.hid a2
                  have hq3M : q2 + 2 ≤ 8 * bs.length := by have := HML.out; omega
                  have t1 : IntKind.i64.wrap ((LN : Int) - 1) = ((LN - 1 : Nat) : Int) := by rw [show (LN : Int) - 1 = ((LN - 1 : Nat) : Int) by omega]; exact IntWalk.i64_in _ (by omega)
                  have t2 : (LN : Int) - 1 = ((LN - 1 : Nat) : Int) := by omega
                  have t3 : LN - 1 < LN := by omega
                  clear hlri hlv2 hy HC3 a2
                  go_wp2_with fail
                  clear hlc t1 t2 t3 c4
                  refine (rtimes_calls w4 b0 LN _ l (3 + (X : Int)) y HL4.out hbz4 (by omega) (by omega)).mono ?_
                  rintro _ w5 ⟨v5, rfl, ho5, hb5⟩
                  rw [show (3 + (X : Int)).toNat = X + 3 by omega] at ho5
                  have H5 := Lib.hid (H4.out.under hb5 HB0.out.1 HB0.out.2.1)
                  have K5 := Lib.hid (K4.out.under hb5 HB0.out.2.2)
                  have HR5 := Lib.hid (HR4.out.under hb5 (Nat.le_refl _))
                  have HL5 := Lib.hid ho5
                  have hbz5 : b0 ≤ w5.heap.size := Nat.le_trans hbz4 hb5.size
                  have hll : (l ++ List.replicate (X + 3) y).length = LN + (X + 3) := by rw [List.length_append, List.length_replicate, HLN.out]
                  have HLL := Lib.hid hll
                  have HSY : Hid (sayF l ((16 : Nat) : Int) (numB bs q2 2) = some (y, X + 3)) := Lib.hid (by
                    rw [← HA2.out, show ((16 : Nat) : Int) = 16 from rfl, sayF_16 (by omega) (by omega) (fun h => by have := HLN.out; rw [h] at this; simp at this; omega), ← HY.out]; rfl)
                  have HREL : Hid ((LN + (X + 3) ≤ N ∧ readR bs p = stepsF cs bs (N : Int) f (l ++ List.replicate (X + 3) y) (q2 + 2)) ∨ (N < LN + (X + 3) ∧ (readR bs p).2.2 = 41)) := Lib.hid (by
                    have h := HRD2.out
                    rw [hw, if_neg (by omega)] at h
                    by_cases hle : LN + (X + 3) ≤ N
                    · rw [addF_some HSY.out (by rw [← HLN.out]; omega)] at h
                      exact .inl ⟨hle, h⟩
                    · rw [addF_many HSY.out (by rw [← HLN.out]; omega)] at h
                      exact .inr ⟨by omega, by rw [h]⟩)
                  clear ho5 hb5 hll H4 K4 HR4 HL4 hbz4 hw HRD2 HSY
                  obtain ⟨A5, c5, rfl⟩ := own_formR HL5.out
                  go_wp2_with fail
                  go_roundg (gk - 1)
                  case measure => omega
                  case rel =>
                    refine ⟨q2 + 2, l ++ List.replicate (X + 3) y, 0, Lib.hid ?_, by rw [HLL.out]; omega, by rw [HLL.out]; exact HL5, H5, K5, HR5, hbz5⟩
                    rw [HLL.out]
                    rcases HREL.out with ⟨b1, b2⟩ | ⟨b1, b2⟩
                    · exact .inl ⟨rfl, hq3M, by omega, b1, by omega, f, by omega, b2⟩
                    · exact .inr (.inl ⟨rfl, by omega, b1, b2⟩)
                · have HA3 := Lib.hid a
                  have e8 : ((55 : Int) == 0) = false := by decide
                  clear HC3 a hw HRD2
                  go_wp2_with fail
                  go_roundg 1
                  case measure => omega
                  case rel => exact ⟨q3, l, 55, Lib.hid (.inr (.inr ⟨by decide, by omega, HA3.out⟩)), by rw [← HLN.out]; exact hl1, by rw [← HLN.out]; exact HL4, H4, K4, HR4, hbz4⟩
            have e6 : ((j : Int) == 16) = false := by simp; omega
            by_cases hj17 : j = 17
            · subst hj17
              have e7 : (((17 : Nat) : Int) == 17) = true := by decide
              go_wp2_with fail
              clear c4 e5 e5' e6 e7
              refine (rtake_calls w2 g B M c bs q2 out most 0 ob 3 3 rfl H2.out (by omega)).mono ?_
              rintro _ w3 ⟨x, q3, e3, rfl, hh3, k3, x0, x1, -, hc3⟩
              rw [show (2 : Int) ^ 3 = 8 from rfl] at x1
              have H3 := Lib.hid hh3
              have K3 := Lib.hid (K2.out.trans k3)
              have HR3 := Lib.hid (HR2.out.fr (FR.of_keeps (ob := ob) k3) hgg3 HAPX.out).1
              have HL3 := Lib.hid (own_keeps HL2.out k3 (fun x hx hm => by have h1 := own_lo HL2.out x hx; have h2 := HB0.out.1; have h3 := List.mem_singleton.1 hm; omega))
              have hbz3 : b0 ≤ w3.heap.size := Nat.le_trans hbz2 k3.size
              have hw : wN ((17 : Nat) : Int) = 3 := rfl
              have HC3 : Hid ((q2 + 3 ≤ M ∧ e3 = 0 ∧ x = numB bs q2 3 ∧ q3 = q2 + 3) ∨ (e3 = 55 ∧ codesE (headF bs p) = 55)) := Lib.hid (by
                have hM := HML.out
                rcases hc3 with ⟨-, a1, a2, a3, a4⟩ | ⟨-, a1, a2, -, -⟩ | ⟨a, _⟩
                · exact .inl ⟨a1, a2, a3, a4⟩
                · refine .inr ⟨a2, ?_⟩
                  have h := HRD2.out
                  rw [hw, if_pos (by omega)] at h
                  rw [HE5.out 10 (by rw [h]) (by decide)]; rfl
                · exact absurd rfl a)
              clear hh3 k3 hc3 H2 K2 HR2 HL2 hbz2
              obtain ⟨X, hX⟩ : ∃ X : Nat, x = X := ⟨x.toNat, by omega⟩
              subst hX
              have hX4 : X < 8 := by omega
              clear x0 x1
              go_wp2_with fail
              refine (rtimes_calls w3 b0 LN _ l (3 + (X : Int)) 0 HL3.out hbz3 (by omega) (by omega)).mono ?_
              rintro _ w5 ⟨v5, rfl, ho5, hb5⟩
              rw [show (3 + (X : Int)).toNat = X + 3 by omega] at ho5
              have H5 := Lib.hid (H3.out.under hb5 HB0.out.1 HB0.out.2.1)
              have K5 := Lib.hid (K3.out.under hb5 HB0.out.2.2)
              have HR5 := Lib.hid (HR3.out.under hb5 (Nat.le_refl _))
              have HL5 := Lib.hid ho5
              have hbz5 : b0 ≤ w5.heap.size := Nat.le_trans hbz3 hb5.size
              have hll : (l ++ List.replicate (X + 3) (0 : Int)).length = LN + (X + 3) := by rw [List.length_append, List.length_replicate, HLN.out]
              have HLL := Lib.hid hll
              have HREL : Hid ((e3 = 0 ∧ q3 ≤ 8 * bs.length ∧ p ≤ q3 ∧ LN + (X + 3) ≤ N ∧ readR bs p = stepsF cs bs (N : Int) f (l ++ List.replicate (X + 3) 0) q3) ∨ (e3 = 0 ∧ N < LN + (X + 3) ∧ (readR bs p).2.2 = 41) ∨ (e3 ≠ 0 ∧ codesE (headF bs p) = e3)) := Lib.hid (by
                have hM := HML.out
                rcases HC3.out with ⟨a1, rfl, a2, rfl⟩ | ⟨rfl, a⟩
                · have h := HRD2.out
                  have hsy : sayF l ((17 : Nat) : Int) (numB bs q2 3) = some (0, X + 3) := by
                    rw [← a2, show ((17 : Nat) : Int) = 17 from rfl, sayF_17 (by omega) (by omega)]; rfl
                  rw [hw, if_neg (by omega)] at h
                  by_cases hle : LN + (X + 3) ≤ N
                  · rw [addF_some hsy (by rw [← HLN.out]; omega)] at h
                    exact .inl ⟨rfl, by omega, by omega, hle, h⟩
                  · rw [addF_many hsy (by rw [← HLN.out]; omega)] at h
                    exact .inr (.inl ⟨rfl, by omega, by rw [h]⟩)
                · exact .inr (.inr ⟨by decide, a⟩))
              clear ho5 hb5 hll H3 K3 HR3 HL3 hbz3 hw HRD2 HC3
              obtain ⟨A5, c5, rfl⟩ := own_formR HL5.out
              go_wp2_with fail
              go_roundg (gk - 1)
              case measure => omega
              case rel =>
                refine ⟨q3, l ++ List.replicate (X + 3) 0, e3, Lib.hid ?_, by rw [HLL.out]; omega, by rw [HLL.out]; exact HL5, H5, K5, HR5, hbz5⟩
                rw [HLL.out]
                rcases HREL.out with ⟨b0, b1, b2, b3, b4⟩ | ⟨b0, b1, b2⟩ | ⟨b1, b2⟩
                · exact .inl ⟨b0, b1, b2, b3, by omega, f, by omega, b4⟩
                · exact .inr (.inl ⟨b0, by omega, b1, b2⟩)
                · exact .inr (.inr ⟨b1, by omega, b2⟩)
            · obtain rfl : j = 18 := by omega
              have e7 : (((18 : Nat) : Int) == 17) = false := by decide
              go_wp2_with fail
              clear c4 e5 e5' e6 e7
              refine (rtake_calls w2 g B M c bs q2 out most 0 ob 7 7 rfl H2.out (by omega)).mono ?_
              rintro _ w3 ⟨x, q3, e3, rfl, hh3, k3, x0, x1, -, hc3⟩
              rw [show (2 : Int) ^ 7 = 128 from rfl] at x1
              have H3 := Lib.hid hh3
              have K3 := Lib.hid (K2.out.trans k3)
              have HR3 := Lib.hid (HR2.out.fr (FR.of_keeps (ob := ob) k3) hgg3 HAPX.out).1
              have HL3 := Lib.hid (own_keeps HL2.out k3 (fun x hx hm => by have h1 := own_lo HL2.out x hx; have h2 := HB0.out.1; have h3 := List.mem_singleton.1 hm; omega))
              have hbz3 : b0 ≤ w3.heap.size := Nat.le_trans hbz2 k3.size
              have hw : wN ((18 : Nat) : Int) = 7 := rfl
              have HC3 : Hid ((q2 + 7 ≤ M ∧ e3 = 0 ∧ x = numB bs q2 7 ∧ q3 = q2 + 7) ∨ (e3 = 55 ∧ codesE (headF bs p) = 55)) := Lib.hid (by
                have hM := HML.out
                rcases hc3 with ⟨-, a1, a2, a3, a4⟩ | ⟨-, a1, a2, -, -⟩ | ⟨a, _⟩
                · exact .inl ⟨a1, a2, a3, a4⟩
                · refine .inr ⟨a2, ?_⟩
                  have h := HRD2.out
                  rw [hw, if_pos (by omega)] at h
                  rw [HE5.out 10 (by rw [h]) (by decide)]; rfl
                · exact absurd rfl a)
              clear hh3 k3 hc3 H2 K2 HR2 HL2 hbz2
              obtain ⟨X, hX⟩ : ∃ X : Nat, x = X := ⟨x.toNat, by omega⟩
              subst hX
              have hX4 : X < 128 := by omega
              clear x0 x1
              go_wp2_with fail
              refine (rtimes_calls w3 b0 LN _ l (11 + (X : Int)) 0 HL3.out hbz3 (by omega) (by omega)).mono ?_
              rintro _ w5 ⟨v5, rfl, ho5, hb5⟩
              rw [show (11 + (X : Int)).toNat = X + 11 by omega] at ho5
              have H5 := Lib.hid (H3.out.under hb5 HB0.out.1 HB0.out.2.1)
              have K5 := Lib.hid (K3.out.under hb5 HB0.out.2.2)
              have HR5 := Lib.hid (HR3.out.under hb5 (Nat.le_refl _))
              have HL5 := Lib.hid ho5
              have hbz5 : b0 ≤ w5.heap.size := Nat.le_trans hbz3 hb5.size
              have hll : (l ++ List.replicate (X + 11) (0 : Int)).length = LN + (X + 11) := by rw [List.length_append, List.length_replicate, HLN.out]
              have HLL := Lib.hid hll
              have HREL : Hid ((e3 = 0 ∧ q3 ≤ 8 * bs.length ∧ p ≤ q3 ∧ LN + (X + 11) ≤ N ∧ readR bs p = stepsF cs bs (N : Int) f (l ++ List.replicate (X + 11) 0) q3) ∨ (e3 = 0 ∧ N < LN + (X + 11) ∧ (readR bs p).2.2 = 41) ∨ (e3 ≠ 0 ∧ codesE (headF bs p) = e3)) := Lib.hid (by
                have hM := HML.out
                rcases HC3.out with ⟨a1, rfl, a2, rfl⟩ | ⟨rfl, a⟩
                · have h := HRD2.out
                  have hsy : sayF l ((18 : Nat) : Int) (numB bs q2 7) = some (0, X + 11) := by
                    rw [← a2, show ((18 : Nat) : Int) = 18 from rfl, sayF_18 (by omega) (by omega)]; rfl
                  rw [hw, if_neg (by omega)] at h
                  by_cases hle : LN + (X + 11) ≤ N
                  · rw [addF_some hsy (by rw [← HLN.out]; omega)] at h
                    exact .inl ⟨rfl, by omega, by omega, hle, h⟩
                  · rw [addF_many hsy (by rw [← HLN.out]; omega)] at h
                    exact .inr (.inl ⟨rfl, by omega, by rw [h]⟩)
                · exact .inr (.inr ⟨by decide, a⟩))
              clear ho5 hb5 hll H3 K3 HR3 HL3 hbz3 hw HRD2 HC3
              obtain ⟨A5, c5, rfl⟩ := own_formR HL5.out
              go_wp2_with fail
              go_roundg (gk - 1)
              case measure => omega
              case rel =>
                refine ⟨q3, l ++ List.replicate (X + 11) 0, e3, Lib.hid ?_, by rw [HLL.out]; omega, by rw [HLL.out]; exact HL5, H5, K5, HR5, hbz5⟩
                rw [HLL.out]
                rcases HREL.out with ⟨b0, b1, b2, b3, b4⟩ | ⟨b0, b1, b2⟩ | ⟨b1, b2⟩
                · exact .inl ⟨b0, b1, b2, b3, by omega, f, by omega, b4⟩
                · exact .inr (.inl ⟨b0, by omega, b1, b2⟩)
                · exact .inr (.inr ⟨b1, by omega, b2⟩)
          · -- all lengths are said
            by_cases hez : e ≠ 0
            · have HNE := Lib.hid hez
              have e9 : (e == 0) = false := by simpa using hez
              have e9' : (e != 0) = true := by simpa using hez
              have HE : Hid (codesE (headF bs p) = e) := Lib.hid (by
                rcases HS.out with ⟨a, _⟩ | ⟨a, _⟩ | ⟨-, -, a⟩
                · exact absurd a hez
                · exact absurd a hez
                · exact a)
              have HBE0 : ∀ is, badE e is = e := fun is => if_neg (fun h => hez h.1)
              clear hgo hez HS hLN
              by_cases h1 : LN < N
              · have d1 : decide (LN < N) = true := by simpa using h1
                have d1' : decide ((LN : Int) < (N : Int)) = true := by simp; omega
                have d2 : decide (N < LN) = false := by simp; omega
                have d2' : decide ((N : Int) < (LN : Int)) = false := by simp; omega
                have HBE := Lib.hid (HBE0 false)
                clear HBE0
                go_wp2_with fail
                refine (rbad_calls wr g B M c bs qq out most e ob false H.out).mono ?_
                rintro _ w2 ⟨rfl, h2, k2⟩
                rw [HBE.out] at h2
                have H2 := Lib.hid h2
                have K2 := Lib.hid (K.out.trans k2)
                obtain ⟨-, -, -, c4, -⟩ := h2.cells
                clear h2 k2
                go_wp2_with fail
                go_ret2
                exact rheadP_err HE.out HNE.out H2.out K2.out
              have d1 : decide (LN < N) = false := by simpa using h1
              have d1' : decide ((LN : Int) < (N : Int)) = false := by simp; omega
              by_cases h2 : N < LN
              · have d2 : decide (N < LN) = true := by simpa using h2
                have d2' : decide ((N : Int) < (LN : Int)) = true := by simp; omega
                have HBE := Lib.hid (HBE0 true)
                clear HBE0
                go_wp2_with fail
                refine (rbad_calls wr g B M c bs qq out most e ob true H.out).mono ?_
                rintro _ w2 ⟨rfl, h2, k2⟩
                rw [HBE.out] at h2
                have H2 := Lib.hid h2
                have K2 := Lib.hid (K.out.trans k2)
                obtain ⟨-, -, -, c4, -⟩ := h2.cells
                clear h2 k2
                go_wp2_with fail
                go_ret2
                exact rheadP_err HE.out HNE.out H2.out K2.out
              · have d2 : decide (N < LN) = false := by simpa using h2
                have d2' : decide ((N : Int) < (LN : Int)) = false := by simp; omega
                have HBE := Lib.hid (HBE0 false)
                clear HBE0
                go_wp2_with fail
                refine (rbad_calls wr g B M c bs qq out most e ob false H.out).mono ?_
                rintro _ w2 ⟨rfl, h2, k2⟩
                rw [HBE.out] at h2
                have H2 := Lib.hid h2
                have K2 := Lib.hid (K.out.trans k2)
                obtain ⟨-, -, -, c4, -⟩ := h2.cells
                clear h2 k2
                go_wp2_with fail
                go_ret2
                exact rheadP_err HE.out HNE.out H2.out K2.out
            obtain rfl : e = 0 := Classical.not_not.1 hez
            have hge : ¬ LN < N := fun h => hgo ⟨h, rfl⟩
            clear hgo hez
            have d1 : decide (LN < N) = false := by simpa using hge
            have d1' : decide ((LN : Int) < (N : Int)) = false := by simp; omega
            by_cases h2 : N < LN
            · have d2 : decide (N < LN) = true := by simpa using h2
              have d2' : decide ((N : Int) < (LN : Int)) = true := by simp; omega
              have HE : Hid (codesE (headF bs p) = 52) := Lib.hid (by
                rcases HS.out with ⟨-, -, -, a, _⟩ | ⟨-, -, -, a⟩ | ⟨a, _⟩
                · omega
                · rw [HE5.out 41 a (by decide)]; rfl
                · exact absurd rfl a)
              have HBE : Hid (badE 0 true = 52) := Lib.hid rfl
              have HNE : Hid ((52 : Int) ≠ 0) := Lib.hid (by decide)
              clear HS hLN hge
              go_wp2_with fail
              refine (rbad_calls wr g B M c bs qq out most 0 ob true H.out).mono ?_
              rintro _ w2 ⟨rfl, h2, k2⟩
              rw [HBE.out] at h2
              have H2 := Lib.hid h2
              have K2 := Lib.hid (K.out.trans k2)
              obtain ⟨-, -, -, c4, -⟩ := h2.cells
              clear h2 k2
              go_wp2_with fail
              go_ret2
              exact rheadP_err HE.out HNE.out H2.out K2.out
            obtain rfl : LN = N := by omega
            have d2 : decide (LN < LN) = false := by simp
            have d2' : decide ((LN : Int) < (LN : Int)) = false := by simp
            have HH : Hid (headF bs p = (l.take lit, l.drop lit, qq - p, 0) ∧ p ≤ qq) := Lib.hid (by
              rcases HS.out with ⟨-, -, a1, a2, a3, f, a4, a5⟩ | ⟨-, -, a, _⟩ | ⟨a, _⟩
              · exact ⟨HHD.out l qq (by rw [a5, stepsF_done _ _ _ _ _ _ (by omega)]), a1⟩
              · omega
              · exact absurd rfl a)
            clear HS hge h2 hLN
            go_wp2_with fail
            refine (rbad_calls wr g B M c bs qq out most 0 ob false H.out).mono ?_
            rintro _ w2 ⟨rfl, h2, k2⟩
            rw [show badE 0 false = 0 from rfl] at h2
            have H2 := Lib.hid h2
            have K2 := Lib.hid (K.out.trans k2)
            have HL2 := Lib.hid (own_keeps HLO.out k2 (fun x hx hm => by have h1 := own_lo HLO.out x hx; have h2 := HB0.out.1; have h3 := List.mem_singleton.1 hm; omega))
            obtain ⟨-, -, -, c4, -⟩ := h2.cells
            clear h2 k2 H K HLO d1 d1' d2 d2'
            have hcap := own_cap HL2.out
            obtain ⟨lA', lc', hlv, hri, hcc, hln, hpl, hlt⟩ := own_full HL2.out
            injection hlv with hlv1 hlv2 hlv3
            subst hlv1
            subst hlv3
            have hsl1 := fun w => slice_toI w lA LN lc lit lit rfl hNl hcap
            have hsl2 := fun w => slice_fromI w lA LN lc lit lit rfl hNl
            have HRI1 := Lib.hid (hri.take hNl)
            have HRI2 := Lib.hid (hri.cut hpl hNl hcc)
            have HA2 : Hid (∀ a, cutA lA lit lc = some a → w.heap.size ≤ a.block ∧ a.block < w2.heap.size) := Lib.hid (fun a ha => by
              obtain ⟨a', ha', hb'⟩ := cutA_blk hpl a ha
              have h1 := hlt a' ha'
              have h2 := HB0.out.2.2
              omega)
            have HLL1 : Hid ((l.take lit).length = lit) := Lib.hid (by rw [List.length_take, ← HLN.out]; omega)
            have HLL2 : Hid ((l.drop lit).length = LN - lit) := Lib.hid (by rw [List.length_drop, HLN.out])
            obtain ⟨lb, lo, hla, hlc⟩ := (hri.take hNl).at (show 256 < lit by omega)
            obtain ⟨D, hD⟩ : ∃ D, D = LN - lit := ⟨_, rfl⟩
            rw [← hD] at hsl2 HRI2 HLL2
            have hD1 : 1 ≤ D := by omega
            have hDb : D ≤ 320 := by omega
            obtain ⟨A2, hA2⟩ : ∃ A, A = cutA lA lit lc := ⟨_, rfl⟩
            rw [← hA2] at hsl2 HRI2 HA2
            obtain ⟨C2, hC2⟩ : ∃ C, C = lc - lit := ⟨_, rfl⟩
            rw [← hC2] at hsl2
            have HLB : Hid (w.heap.size ≤ lb) := Lib.hid (by have h1 := (hlt ⟨lb, lo, none⟩ hla).1; have h2 := HB0.out.2.2; simp only [] at h1; omega)
            subst hla
            obtain ⟨x, hx⟩ : ∃ x, x = nth (l.take lit) 256 := ⟨_, rfl⟩
            rw [← hx] at hlc
            have HX := Lib.hid hx
            obtain ⟨L1, hL1⟩ : ∃ L, L = l.take lit := ⟨_, rfl⟩
            obtain ⟨L2, hL2⟩ : ∃ L, L = l.drop lit := ⟨_, rfl⟩
            rw [← hL1] at HRI1 HLL1 HX HH
            rw [← hL2] at HRI2 HLL2 HH
            have HEE : Hid (codesE (headF bs p) = if x = 0 then 52 else if checkF L1 ≠ 0 then 52 else if anyUsed L2 = true ∧ checkF L2 ≠ 0 then 52 else 0) := Lib.hid (by
              rw [HH.out.1]; unfold codesE; rw [if_neg (by simp), HX.out])
            clear hri hcc hln hpl hlt hlv2 hcap hD hA2 hC2 hx hL1 hL2 HL2 HLN
            by_cases hx0 : x = 0
            · subst hx0
              have HE := Lib.hid (HEE.out.trans (if_pos rfl))
              go_wp2_with fail
              refine (rbad_calls w2 g B M c bs qq out most 0 ob true H2.out).mono ?_
              rintro _ w3 ⟨rfl, h3, k3⟩
              rw [show badE 0 true = 52 from rfl] at h3
              have H3 := Lib.hid h3
              have K3 := Lib.hid (K2.out.trans k3)
              clear h3 k3
              go_wp2_with fail
              go_ret2
              exact rheadP_err HE.out (by decide) H3.out K3.out
            have x1 : (x == 0) = false := by simpa using hx0
            have x1' : decide (x = 0) = false := by simpa using hx0
            have HE1 := Lib.hid (HEE.out.trans (if_neg hx0))
            clear hx0 HEE
            go_wp2_with fail
            refine (refCheck_calls w2 (some ⟨lb, lo, none⟩) lit lc L1 HRI1.out (by omega)).mono ?_
            rintro _ w3 ⟨rfl, hd3⟩
            have hk3 := hd3.keeps (S := [])
            have H3 := Lib.hid (H2.out.keeps hk3)
            have K3 := Lib.hid (K2.out.trans (hd3.keeps (S := [g])))
            have HRI13 := Lib.hid (HRI1.out.keeps hk3 (off_nil _))
            have HRI23 := Lib.hid (HRI2.out.keeps hk3 (off_nil _))
            have HA3 : Hid (∀ a, A2 = some a → w.heap.size ≤ a.block ∧ a.block < w3.heap.size) := Lib.hid (fun a ha => ⟨(HA2.out a ha).1, Nat.lt_of_lt_of_le (HA2.out a ha).2 hk3.size⟩)
            clear hd3 hk3 H2 K2 HRI1 HRI2 HA2 hlc hsl1 hsl2 x1 x1' c4
            by_cases hc1 : checkF L1 ≠ 0
            · have HE := Lib.hid (HE1.out.trans (if_pos hc1))
              have e9 : (checkF L1 != 0) = true := by simpa using hc1
              generalize checkF L1 = y at *
              go_wp2_with fail
              refine (rbad_calls w3 g B M c bs qq out most 0 ob true H3.out).mono ?_
              rintro _ w4 ⟨rfl, h4, k4⟩
              rw [show badE 0 true = 52 from rfl] at h4
              have H4 := Lib.hid h4
              have K4 := Lib.hid (K3.out.trans k4)
              clear h4 k4
              go_wp2_with fail
              go_ret2
              exact rheadP_err HE.out (by decide) H4.out K4.out
            have HE2 := Lib.hid (HE1.out.trans (if_neg hc1))
            replace hc1 : checkF L1 = 0 := Classical.not_not.1 hc1
            rw [hc1]
            clear hc1 HE1
            go_wp2_with fail
            refine (rused_calls w3 A2 D C2 L2 HRI23.out (by omega)).mono ?_
            rintro _ w4 ⟨rfl, hd4⟩
            have hk4 := hd4.keeps (S := [])
            have H4 := Lib.hid (H3.out.keeps hk4)
            have K4 := Lib.hid (K3.out.trans (hd4.keeps (S := [g])))
            have HRI14 := Lib.hid (HRI13.out.keeps hk4 (off_nil _))
            have HRI24 := Lib.hid (HRI23.out.keeps hk4 (off_nil _))
            have HA4 : Hid (∀ a, A2 = some a → w.heap.size ≤ a.block ∧ a.block < w4.heap.size) := Lib.hid (fun a ha => ⟨(HA3.out a ha).1, Nat.lt_of_lt_of_le (HA3.out a ha).2 hk4.size⟩)
            clear hd4 hk4 H3 K3 HRI13 HRI23 HA3
            obtain ⟨u, hu⟩ : ∃ u, u = anyUsed L2 := ⟨_, rfl⟩
            rw [← hu] at HE2 ⊢
            clear hu
            have HFIN : Hid (∀ w5, codesE (headF bs p) = 0 → RD w5 g B M c bs qq out most 0 ob → Keeps [g] w w5 → RI .i64 w5 (some ⟨lb, lo, none⟩) lit L1 → RI .i64 w5 A2 D L2 → (∀ a, A2 = some a → w.heap.size ≤ a.block ∧ a.block < w5.heap.size) →
                RHeadP w g B M c bs p out most ob (headF bs p) (.returned (.tuple #[.slice (some ⟨lb, lo, none⟩) lit lc, .slice A2 D C2])) w5) := Lib.hid (fun w5 h0 h1 h2 h3 h4 h5 => by
              refine ⟨qq, _, _, rfl, by rw [h0]; exact h1, h2, fun _ => ?_⟩
              rw [HH.out.1]
              refine ⟨by have := HH.out.2; simp only []; omega, some ⟨lb, lo, none⟩, lc, A2, C2, ?_, ?_, ?_, ?_, h5⟩
              · show _ = Value.slice _ L1.length _; rw [HLL1.out]
              · show _ = Value.slice _ L2.length _; rw [HLL2.out]
              · show RI _ _ _ L1.length _; rw [HLL1.out]; exact h3
              · show RI _ _ _ L2.length _; rw [HLL2.out]; exact h4)
            cases u with
            | false =>
              have HE := Lib.hid (HE2.out.trans (if_neg (by simp)))
              go_wp2_with fail
              refine (rbad_calls w4 g B M c bs qq out most 0 ob false H4.out).mono ?_
              rintro _ w5 ⟨rfl, h5, k5⟩
              rw [show badE 0 false = 0 from rfl] at h5
              have H5 := Lib.hid h5
              have K5 := Lib.hid (K4.out.trans k5)
              have HX5 := Lib.hid k5
              clear h5 k5
              go_wp2_with fail
              go_ret2
              exact HFIN.out _ HE.out H5.out K5.out (HRI14.out.keeps HX5.out (fun a ha hm => by have h1 := HLB.out; have h2 := HGL.out; injection ha with ha; subst ha; have h3 := List.mem_singleton.1 hm; simp only [] at h3; omega)) (HRI24.out.keeps HX5.out (fun a ha hm => by have h1 := (HA4.out a ha).1; have h2 := HGL.out; have h3 := List.mem_singleton.1 hm; omega)) (fun a ha => ⟨(HA4.out a ha).1, Nat.lt_of_lt_of_le (HA4.out a ha).2 HX5.out.size⟩)
            | true =>
              go_wp2_with fail
              refine (refCheck_calls w4 A2 D C2 L2 HRI24.out (by omega)).mono ?_
              rintro _ w5 ⟨rfl, hd5⟩
              have hk5 := hd5.keeps (S := [])
              have H5 := Lib.hid (H4.out.keeps hk5)
              have K5 := Lib.hid (K4.out.trans (hd5.keeps (S := [g])))
              have HRI15 := Lib.hid (HRI14.out.keeps hk5 (off_nil _))
              have HRI25 := Lib.hid (HRI24.out.keeps hk5 (off_nil _))
              have HA5 : Hid (∀ a, A2 = some a → w.heap.size ≤ a.block ∧ a.block < w5.heap.size) := Lib.hid (fun a ha => ⟨(HA4.out a ha).1, Nat.lt_of_lt_of_le (HA4.out a ha).2 hk5.size⟩)
              clear hd5 hk5 H4 K4 HRI14 HRI24 HA4
              by_cases hc2 : checkF L2 ≠ 0
              · have HE := Lib.hid (HE2.out.trans (if_pos ⟨by simp, hc2⟩))
                have e9 : (checkF L2 != 0) = true := by simpa using hc2
                generalize checkF L2 = y at *
                go_wp2_with fail
                refine (rbad_calls w5 g B M c bs qq out most 0 ob true H5.out).mono ?_
                rintro _ w6 ⟨rfl, h6, k6⟩
                rw [show badE 0 true = 52 from rfl] at h6
                have H6 := Lib.hid h6
                have K6 := Lib.hid (K5.out.trans k6)
                clear h6 k6
                go_wp2_with fail
                go_ret2
                exact rheadP_err HE.out (by decide) H6.out K6.out
              · have HE := Lib.hid (HE2.out.trans (if_neg (fun h => hc2 h.2)))
                replace hc2 : checkF L2 = 0 := Classical.not_not.1 hc2
                rw [hc2]
                clear hc2 HE2
                go_wp2_with fail
                refine (rbad_calls w5 g B M c bs qq out most 0 ob false H5.out).mono ?_
                rintro _ w6 ⟨rfl, h6, k6⟩
                rw [show badE 0 false = 0 from rfl] at h6
                have H6 := Lib.hid h6
                have K6 := Lib.hid (K5.out.trans k6)
                have HX6 := Lib.hid k6
                clear h6 k6
                go_wp2_with fail
                go_ret2
                exact HFIN.out _ HE.out H6.out K6.out (HRI15.out.keeps HX6.out (fun a ha hm => by have h1 := HLB.out; have h2 := HGL.out; injection ha with ha; subst ha; have h3 := List.mem_singleton.1 hm; simp only [] at h3; omega)) (HRI25.out.keeps HX6.out (fun a ha hm => by have h1 := (HA5.out a ha).1; have h2 := HGL.out; have h3 := List.mem_singleton.1 hm; omega)) (fun a ha => ⟨(HA5.out a ha).1, Nat.lt_of_lt_of_le (HA5.out a ha).2 HX6.out.size⟩)
end Go.Proofs.YtkpabdjniiepkaaGreatDoor
