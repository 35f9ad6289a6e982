import Derived.Test.YtkpabdjniiepkaaDoorDNilH
import Derived.Lib.SliceRun
import Derived.Test.YtkpabdjniiepkaaDoorDNilA
import Derived.Test.YtkpabdjniiepkaaDoorDNilB
import Derived.RegionTactic
import Derived.BigQuiet
import Derived.BigRegion
import Derived.Test.YtkpabdjniiepkaaDoorDNilF
import Derived.Test.YtkpabdjniiepkaaDoorDNilG
import Derived.StillTailTactics
import Derived.Deep.Onto
import Derived.Laws.AppendOwnNone
import Derived.Deep.LoopGhost
set_option linter.unusedVariables false
set_option linter.unusedSimpArgs false
/-! deflate.Deflate. -/
namespace Go.Proofs.YtkpabdjniiepkaaDoor
open Go.RowKit
theorem way1_calls (w : World) (B : Nat) (A : Option Addr) (n c : Nat) (xs : List Int) (hB : w.cell? ⟨B, 0, none⟩ = some (.slice A n c)) (hr : RI .u8 w A n xs) (hnil : A = none → n = 0 ∧ c = 0) :
    Calls Tryd.prog 27 #[.pointer (some ⟨B, 0, none⟩)] w (StorP w n xs) := by
  have HR := Lib.hid hr
  have HN := Lib.hid hnil
  clear hr hnil
  go_enter Tryd.func27, Tryd.ntmps27
  go_wp2_with fail
  refine (dstored_calls w A n c xs HR.out HN.out).mono ?_
  rintro e w' (⟨h1, rfl, h2⟩ | ⟨h1, v, rfl, h2⟩)
  · have H2 := Lib.hid h2
    clear h2
    go_wp2_with fail
    go_ret2
    exact .inl ⟨h1, rfl, H2.out⟩
  · have H2 := Lib.hid h2
    clear h2
    go_wp2_with fail
    go_ret2
    exact .inr ⟨h1, v, rfl, H2.out⟩
theorem way2_calls (w : World) (B : Nat) (At : Option Addr) (nt ct : Nat) (ts : List Tok) (hB : w.cell? ⟨B, 0, none⟩ = some (.slice At nt ct)) (ht : RT w At nt ts) (ha : ∀ a, At = some a → a.block < w.heap.size) (hl : LitOk ts) (hn : nt ≤ 140737488355328) :
    Calls Tryd.prog 28 #[.pointer (some ⟨B, 0, none⟩)] w (Outp w (checkT ts 0) (fun xs => WB xs (fixB ts))) := by
  have HC := Lib.hid (dfixed_calls w At nt ct ts ht ha hl hn)
  clear ht ha hl
  go_enter Tryd.func28, Tryd.ntmps28
  go_wp2_with fail
  refine HC.out.mono ?_
  rintro e w' (⟨h1, g, n, c, xs, rfl, h2⟩ | ⟨h1, rfl, h2⟩)
  · have H2 := Lib.hid h2
    have H1 := Lib.hid h1
    clear h2 h1
    go_wp2_with fail
    go_ret2
    exact .inl ⟨H1.out, _, _, _, _, rfl, H2.out⟩
  · have H2 := Lib.hid h2
    have H1 := Lib.hid h1
    clear h2 h1
    go_wp2_with fail
    go_ret2
    exact .inr ⟨H1.out, rfl, H2.out⟩
theorem way3_calls (w : World) (B : Nat) (At : Option Addr) (nt ct : Nat) (ts : List Tok) (hT : Tabs w) (hB : w.cell? ⟨B, 0, none⟩ = some (.slice At nt ct)) (ht : RT w At nt ts) (ha : ∀ a, At = some a → a.block < w.heap.size) (hl : LitOk ts) (hn : nt ≤ 140737488355328) :
    Calls Tryd.prog 29 #[.pointer (some ⟨B, 0, none⟩)] w (Outp w (checkT ts 0) (fun xs => WB xs (dynB (dynLit ts) (dynDist ts) ts))) := by
  have HC := Lib.hid (ddyn_calls w At nt ct ts hT ht ha hl hn)
  clear ht ha hl hT
  go_enter Tryd.func29, Tryd.ntmps29
  go_wp2_with fail
  refine HC.out.mono ?_
  rintro e w' (⟨h1, g, n, c, xs, rfl, h2⟩ | ⟨h1, rfl, h2⟩)
  · have H2 := Lib.hid h2
    have H1 := Lib.hid h1
    clear h2 h1
    go_wp2_with fail
    go_ret2
    exact .inl ⟨H1.out, _, _, _, _, rfl, H2.out⟩
  · have H2 := Lib.hid h2
    have H1 := Lib.hid h1
    clear h2 h1
    go_wp2_with fail
    go_ret2
    exact .inr ⟨H1.out, rfl, H2.out⟩
/-- What bytes are deflated to, in memory. -/
def DeflP (w : World) (n : Nat) (xs : List Int) (e : Ending) (w' : World) : Prop :=
  (16384 < n ∧ e = .returned (.tuple #[.slice none 0 0, .int .i64 2]) ∧ Below w.heap.size w w') ∨
  (n ≤ 16384 ∧ ∃ g m c ys, e = .returned (.tuple #[.slice (some ⟨g, 0, none⟩) m c, .int .i64 0]) ∧ RI .u8 w' (some ⟨g, 0, none⟩) m ys ∧ w.heap.size ≤ g ∧ Defl xs ys ∧ Below w.heap.size w w' ∧ CapOk (some ⟨g, 0, none⟩) m c)
theorem own_some {w : World} {base n size : Nat} {e : TypeId} {v : Value} {xs : List Value} (h : w.ownsRow base e size v n xs) (hn : 0 < n) : ∃ g c, v = .slice (some ⟨g, 0, none⟩) n c ∧ base ≤ g := by
  rcases h.2 with ⟨rfl, h0⟩ | ⟨g, cap, cur, rfl, hb, _⟩
  · omega
  · exact ⟨g, cap, rfl, hb⟩
set_option maxRecDepth 100000 in
set_option maxHeartbeats 2000000 in
theorem deflate_calls (w : World) (A : Option Addr) (n c : Nat) (xs : List Int) (hT : Tabs w) (hr : RI .u8 w A n xs) (hnil : A = none → n = 0 ∧ c = 0) (ha : ∀ a, A = some a → a.block < w.heap.size) (hb : ∀ j, 0 ≤ nth xs j ∧ nth xs j ≤ 255) :
    Calls Tryd.prog 9 #[.slice A n c] w (DeflP w n xs) := by
  have HT := Lib.hid hT
  have HR := Lib.hid hr
  have HN := Lib.hid hnil
  have HA := Lib.hid ha
  have HB := Lib.hid hb
  have HL : Hid (xs.length = n) := Lib.hid hr.len
  have ka : Keeps [] w (w.alloc (.cells #[.slice A n c] 22)) := (Keeps.refl [] w).alloc _
  have kb : Below w.heap.size w (w.alloc (.cells #[.slice A n c] 22)) := (Below.refl _ w).alloc (Nat.le_refl _) _
  clear hT hr hnil ha hb
  by_cases hbig : 16384 < n
  · have x1 : decide (16384 < n) = true := by simpa using hbig
    have x2 : decide ((16384 : Int) < (n : Int)) = true := by simp; omega
    go_enter Tryd.func9, Tryd.ntmps9
    go_wp2_with fail
    go_ret2
    exact .inl ⟨hbig, rfl, kb⟩
  · have x1 : decide (16384 < n) = false := by simpa using hbig
    have x2 : decide ((16384 : Int) < (n : Int)) = false := by simp; omega
    have hn : n ≤ 16384 := by omega
    have hmf : ∀ (fn : Fn) (first cap : Array Value) (w : World), (Instr.makeFunc fn first cap).run Tryd.prog w = .ok (.func fn first cap) w := fun _ _ _ _ => rfl
    have HFC := Lib.hid (find_calls _ A n c xs (HR.out.keeps ka (off_nil _)) HN.out hn HB.out)
    have hbx := blk_new w 22 [.slice A n c]
    have HBX := Lib.hid hbx
    have KA := Lib.hid ka
    clear hbig ka kb hbx
    go_enter Tryd.func9, Tryd.ntmps9
    go_wp2_with fail
    refine HFC.out.mono ?_
    rintro _ w2 ⟨vt, rfl, hot, hbt⟩
    obtain ⟨At, ct, rfl⟩ := own_formW hot
    have hxp := tokens_expand (xs := xs) (most := 16384) (by have := HL.out; omega) (by have := HL.out; omega)
    have hn0 := fun (w : World) => run_eql_nil_slice (P := Tryd.prog) w 22 5 none 0 0 0 0 Tryd.underlying22
    have hn1 := fun (w : World) (g n c : Nat) => run_eql_nil_slice (P := Tryd.prog) w 22 5 (some ⟨g, 0, none⟩) n c 0 0 Tryd.underlying22
    have hn2 := fun (w : World) (g n c : Nat) => Lib.run_eql_slice_nil (P := Tryd.prog) w 22 5 (some ⟨g, 0, none⟩) n c 0 0 Tryd.underlying22
    have HCK : Hid (checkT (tokensF xs) 0 = 0) := Lib.hid (by rw [← show (expandF 16384 (tokensF xs) []).2 = checkT (tokensF xs) 0 from checkT_expand _ _, hxp])
    have HLI : Hid (LitOk (tokensF xs)) := Lib.hid (find_lits HB.out _ _)
    have hmany := check_many HCK.out
    have KB := Lib.hid (KA.out.trans (Keeps.of_below hbt))
    have HBX2 := Lib.hid (HBX.out.keeps (Keeps.of_below hbt (S := [])) (by simp))
    have HOT := Lib.hid hot
    have hs2 := KB.out.size
    have hs3 : w.heap.size < w2.heap.size := HBX2.out.lt
    clear hot hbt hxp HFC KA HBX
    generalize hts : tokensF xs = ts at *
    have HTS := Lib.hid hts
    generalize hnt : ts.length = nt at *
    clear hts
    go_wp2_with fail
    refine wp_loop_rounds 4 ?_
    rw [rounds_succ]
    obtain ⟨w4, hw4⟩ : ∃ x, x = (w2.alloc (.cells #[.slice At nt ct] 31)).alloc (.cells #[.func (.func 27) #[] #[.pointer (some ⟨w.heap.size, 0, none⟩)], .func (.func 28) #[] #[.pointer (some ⟨w2.heap.size, 0, none⟩)], .func (.func 29) #[] #[.pointer (some ⟨w2.heap.size, 0, none⟩)]] 43) := ⟨_, rfl⟩
    rw [← hw4]
    obtain ⟨f1, hf1⟩ : ∃ x, x = Value.func (.func 27) #[] #[.pointer (some ⟨w.heap.size, 0, none⟩)] := ⟨_, rfl⟩
    have k23 : Keeps [] w2 (w2.alloc (.cells #[.slice At nt ct] 31)) := (Keeps.refl [] w2).alloc _
    have hsz : (w2.alloc (.cells #[.slice At nt ct] 31)).heap.size = w2.heap.size + 1 := by simp
    have k34 : Keeps [] (w2.alloc (.cells #[.slice At nt ct] 31)) w4 := by rw [hw4]; exact (Keeps.refl [] _).alloc _
    have K24 := Lib.hid (k23.trans k34)
    have T4 := Lib.hid ((blk_new w2 31 [.slice At nt ct]).keeps k34 (by simp))
    have F4 : Hid (Blk w4 (w2.heap.size + 1) 43 [.func (.func 27) #[] #[.pointer (some ⟨w.heap.size, 0, none⟩)], .func (.func 28) #[] #[.pointer (some ⟨w2.heap.size, 0, none⟩)], .func (.func 29) #[] #[.pointer (some ⟨w2.heap.size, 0, none⟩)]]) := Lib.hid (by
      have := blk_new (w2.alloc (.cells #[.slice At nt ct] 31)) 43 [.func (.func 27) #[] #[.pointer (some ⟨w.heap.size, 0, none⟩)], .func (.func 28) #[] #[.pointer (some ⟨w2.heap.size, 0, none⟩)], .func (.func 29) #[] #[.pointer (some ⟨w2.heap.size, 0, none⟩)]]
      rw [hsz] at this
      rw [hw4]; exact this)
    have hs4 : w2.heap.size + 2 ≤ w4.heap.size := by rw [hw4]; simp
    clear k23 k34 hsz hw4 hf1 hmf f1
    have hc1 := F4.out.cell 0
    simp only [List.getElem?_cons_zero] at hc1
    have K04 := Lib.hid (KB.out.trans K24.out)
    have HW1 := Lib.hid (way1_calls w4 w.heap.size A n c xs (by have := (HBX2.out.keeps K24.out (by simp)).cell 0; simpa using this) (HR.out.keeps K04.out (off_nil _)) HN.out)
    have HBW : Hid (Below w.heap.size w w4) := Lib.hid K04.out.below
    go_wp2_with fail
    refine HW1.out.mono ?_
    rintro e w5 (⟨h1, _⟩ | ⟨-, v1, rfl, ho1, -, hb1⟩)
    · omega
    obtain ⟨g1, m1, rfl, hg1⟩ := own_some ho1 (by omega)
    have hri1 : RI .u8 w5 (some ⟨g1, 0, none⟩) (5 + n) (storB 1 xs) := by
      obtain ⟨A', c', hv, hr, -⟩ := own_ri ho1
      injection hv with q1 q2 q3
      subst q1
      exact hr
    have HR1 := Lib.hid hri1
    have HO1 := Lib.hid ho1
    have k45 := Keeps.of_below hb1 (S := [])
    have F5 := Lib.hid (F4.out.keeps k45 (by simp))
    have T5 := Lib.hid (T4.out.keeps k45 (by simp))
    have K05 := Lib.hid (K04.out.trans k45)
    have K25 := Lib.hid (K24.out.trans k45)
    have hs5 := k45.size
    have CAP1 := Lib.hid (own_cap ho1)
    clear hc1 k45 hri1 ho1 hb1 HW1 F4 T4 K04 K24
    go_wp2_with fail
    rw [rounds_succ]
    have hc2 := F5.out.cell 1
    simp only [List.getElem?_cons_zero, List.getElem?_cons_succ] at hc2
    have hAlo : ∀ a, At = some a → a.block < w2.heap.size := fun a h => own_hi HOT.out a.block (by rw [h]; rfl)
    have HALO := Lib.hid hAlo
    have HRT : Hid (RT w2 At nt ts) := Lib.hid (by
      obtain ⟨A', c', hv, hr, -⟩ := own_rt HOT.out
      injection hv with q1 q2 q3
      subst q1
      exact hr)
    have HW2 := Lib.hid (way2_calls w5 w2.heap.size At nt ct ts (by have := T5.out.cell 0; simpa using this) (HRT.out.keeps K25.out (off_nil _)) (fun a h => Nat.lt_of_lt_of_le (HALO.out a h) K25.out.size) HLI.out (by omega))
    clear hAlo
    go_wp2_with fail
    refine HW2.out.mono ?_
    rintro e w6 (⟨-, g2, n2, c2, ys2, rfl, hr2, hg2, hwb2, hb2, hcap2⟩ | ⟨h1, _⟩)
    rotate_left
    · exact absurd HCK.out h1
    have k56 := Keeps.of_below hb2 (S := [])
    have HR2 := Lib.hid hr2
    have HR16 := Lib.hid (HR1.out.keeps k56 (off_nil _))
    have F6 := Lib.hid (F5.out.keeps k56 (by simp))
    have T6 := Lib.hid (T5.out.keeps k56 (by simp))
    have K06 := Lib.hid (K05.out.trans k56)
    have K26 := Lib.hid (K25.out.trans k56)
    have hs6 := k56.size
    have HWB2 := Lib.hid hwb2
    have CAP2 := Lib.hid hcap2
    have hln2 : ys2.length = n2 := hr2.len
    have hc3 := F6.out.cell 2
    simp only [List.getElem?_cons_zero, List.getElem?_cons_succ] at hc3
    have TW6 := Lib.hid (HT.out.keeps K06.out (by simp))
    have HW3 := Lib.hid (way3_calls w6 w2.heap.size At nt ct ts TW6.out (by have := T6.out.cell 0; simpa using this) (HRT.out.keeps K26.out (off_nil _)) (fun a h => Nat.lt_of_lt_of_le (HALO.out a h) K26.out.size) HLI.out (by omega))
    clear hc2 k56 hr2 hb2 HW2 F5 T5 K05 K25 HR1 hwb2 hcap2 HBX2 KB
    have HSL : Hid ((storB 1 xs).length = 5 + n) := Lib.hid (by rw [storB_len, HL.out])
    by_cases hlt2 : n2 < 5 + n
    · have y1 : decide (n2 < 5 + n) = true := by simp; omega
      have y2 : decide ((n2 : Int) < 5 + (n : Int)) = true := by simp; omega
      have y3 : decide ((n2 : Int) < ((5 + n : Nat) : Int)) = true := by simp; omega
      go_wp2_with fail
      rw [rounds_succ]
      clear y1 y2 y3
      go_wp2_with fail
      refine HW3.out.mono ?_
      rintro e w7 (⟨-, g3, n3, c3, ys3, rfl, hr3, hg3, hwb3, hb3, hcap3⟩ | ⟨h1, _⟩)
      rotate_left
      · exact absurd HCK.out h1
      have k67 := Keeps.of_below hb3 (S := [])
      have HR3 := Lib.hid hr3
      have HRL := Lib.hid (HR2.out.keeps k67 (off_nil _))
      have K07 := Lib.hid (K06.out.trans k67).below
      have HWB3 := Lib.hid hwb3
      have CAP3 := Lib.hid hcap3
      have hln3 : ys3.length = n3 := hr3.len
      clear hc3 k67 hr3 hb3 HW3 hwb3 hcap3 F6 T6
      by_cases hlt3 : n3 < n2
      · have y1 : decide (n3 < n2) = true := by simp; omega
        have y2 : decide ((n3 : Int) < ((n2 : Nat) : Int)) = true := by simp; omega
        have y3 : decide ((n3 : Int) < (n2 : Int)) = true := by simp; omega
        have HD : Hid (Defl xs ys3) := Lib.hid ⟨⟨ys2, ys3, by rw [HTS.out]; exact HWB2.out, by rw [HTS.out]; exact HWB3.out, by
          rw [show lessL (storB 1 xs) ys2 = ys2 from if_pos (by have := HSL.out; omega)]
          exact (if_pos (by have := HSL.out; omega)).symm⟩⟩
        go_wp2_with fail
        rw [rounds_succ]
        go_wp2_with fail
        go_ret2
        exact .inr ⟨hn, g3, n3, c3, _, rfl, HR3.out, by omega, HD.out, K07.out, CAP3.out⟩
      · have y1 : decide (n3 < n2) = false := by simp; omega
        have y2 : decide ((n3 : Int) < ((n2 : Nat) : Int)) = false := by simp; omega
        have y3 : decide ((n3 : Int) < (n2 : Int)) = false := by simp; omega
        have HD : Hid (Defl xs ys2) := Lib.hid ⟨⟨ys2, ys3, by rw [HTS.out]; exact HWB2.out, by rw [HTS.out]; exact HWB3.out, by
          rw [show lessL (storB 1 xs) ys2 = ys2 from if_pos (by have := HSL.out; omega)]
          exact (if_neg (by have := HSL.out; omega)).symm⟩⟩
        go_wp2_with fail
        rw [rounds_succ]
        go_wp2_with fail
        go_ret2
        exact .inr ⟨hn, g2, n2, c2, _, rfl, HRL.out, by omega, HD.out, K07.out, CAP2.out⟩
    · have y1 : decide (n2 < 5 + n) = false := by simp; omega
      have y2 : decide ((n2 : Int) < 5 + (n : Int)) = false := by simp; omega
      have y3 : decide ((n2 : Int) < ((5 + n : Nat) : Int)) = false := by simp; omega
      go_wp2_with fail
      rw [rounds_succ]
      clear y1 y2 y3
      go_wp2_with fail
      refine HW3.out.mono ?_
      rintro e w7 (⟨-, g3, n3, c3, ys3, rfl, hr3, hg3, hwb3, hb3, hcap3⟩ | ⟨h1, _⟩)
      rotate_left
      · exact absurd HCK.out h1
      have k67 := Keeps.of_below hb3 (S := [])
      have HR3 := Lib.hid hr3
      have HRL := Lib.hid (HR16.out.keeps k67 (off_nil _))
      have K07 := Lib.hid (K06.out.trans k67).below
      have HWB3 := Lib.hid hwb3
      have CAP3 := Lib.hid hcap3
      have hln3 : ys3.length = n3 := hr3.len
      clear hc3 k67 hr3 hb3 HW3 hwb3 hcap3 F6 T6
      by_cases hlt3 : n3 < (5 + n)
      · have y1 : decide (n3 < (5 + n)) = true := by simp; omega
        have y2 : decide ((n3 : Int) < (((5 + n) : Nat) : Int)) = true := by simp; omega
        have y3 : decide ((n3 : Int) < 5 + (n : Int)) = true := by simp; omega
        have HD : Hid (Defl xs ys3) := Lib.hid ⟨⟨ys2, ys3, by rw [HTS.out]; exact HWB2.out, by rw [HTS.out]; exact HWB3.out, by
          rw [show lessL (storB 1 xs) ys2 = storB 1 xs from if_neg (by have := HSL.out; omega)]
          exact (if_pos (by have := HSL.out; omega)).symm⟩⟩
        go_wp2_with fail
        rw [rounds_succ]
        go_wp2_with fail
        go_ret2
        exact .inr ⟨hn, g3, n3, c3, _, rfl, HR3.out, by omega, HD.out, K07.out, CAP3.out⟩
      · have y1 : decide (n3 < (5 + n)) = false := by simp; omega
        have y2 : decide ((n3 : Int) < (((5 + n) : Nat) : Int)) = false := by simp; omega
        have y3 : decide ((n3 : Int) < 5 + (n : Int)) = false := by simp; omega
        have HD : Hid (Defl xs (storB 1 xs)) := Lib.hid ⟨⟨ys2, ys3, by rw [HTS.out]; exact HWB2.out, by rw [HTS.out]; exact HWB3.out, by
          rw [show lessL (storB 1 xs) ys2 = storB 1 xs from if_neg (by have := HSL.out; omega)]
          exact (if_neg (by have := HSL.out; omega)).symm⟩⟩
        go_wp2_with fail
        rw [rounds_succ]
        go_wp2_with fail
        go_ret2
        exact .inr ⟨hn, g1, (5 + n), m1, _, rfl, HRL.out, by omega, HD.out, K07.out, CAP1.out⟩
end Go.Proofs.YtkpabdjniiepkaaDoor

set_option linter.unusedVariables false
set_option linter.unusedSimpArgs false
namespace Go.Proofs.YtkpabdjniiepkaaDoor
open Go.RowKit
theorem Keeps.under {S : List Nat} {w w1 w2 : World} {B : Nat} (h : Keeps S w w1) (hb : Below B w1 w2) (hB : w.heap.size ≤ B) : Keeps S w w2 :=
  ⟨hb.os.trans h.os, hb.tape.trans h.tape, hb.output.trans h.output, Nat.le_trans h.size hb.size, fun k hk hs => (hb.block k (by omega)).trans (h.block k hk hs)⟩
theorem own_full {w : World} {base : Nat} {e : TypeId} {v : Value} {n : Nat} {k : IntKind} {xs : List Int} (h : w.ownsRow base e 1 v n (ints k xs)) :
    ∃ A c, v = .slice A n c ∧ RI k w A n xs ∧ n ≤ c ∧ (A = none → n = 0 ∧ c = 0) ∧ (∀ ad, A = some ad → ∃ b o, ad = ⟨b, o, none⟩) ∧ (∀ a, A = some a → base ≤ a.block ∧ a.block < w.heap.size) := by
  obtain ⟨A, c, rfl, h1, h2, h3⟩ := own_ri h
  refine ⟨A, c, rfl, h1, h2, ?_, ?_, fun a ha => ⟨(h3 a ha).1, (h3 a ha).2.1⟩⟩
  · rintro rfl
    rcases h.2 with ⟨h4, h5⟩ | ⟨g, cap, cur, h4, _⟩
    · injection h4 with _ _ h6
      exact ⟨h5, h6⟩
    · injection h4 with h6; cases h6
  · rintro ad rfl
    rcases h.2 with ⟨h4, h5⟩ | ⟨g, cap, cur, h4, _⟩
    · injection h4 with h6; cases h6
    · injection h4 with h6; injection h6 with h7; exact ⟨g, 0, h7⟩
end Go.Proofs.YtkpabdjniiepkaaDoor

set_option linter.unusedVariables false
set_option linter.unusedSimpArgs false
/-! deflate.Stream. -/
namespace Go.Proofs.YtkpabdjniiepkaaDoor
open Go.RowKit
/-- A stream that keeps so many bytes, and has told so many. -/
def DStrm (w : World) (s : Nat) (kept : List Int) (told : Nat) (closed : Bool) (kb : Option Nat) : Prop :=
  ∃ (A : Option Addr) (c : Nat), Blk w s 75 [.slice A kept.length c, .int .i64 (told : Nat), .bool closed] ∧ w.ownsRow (s + 1) 5 1 (.slice A kept.length c) kept.length (ints .u8 kept) ∧ (Value.slice A kept.length c).ownBlock = kb
theorem DStrm.lt {w : World} {s told : Nat} {kept : List Int} {cl : Bool} {kb : Option Nat} (h : DStrm w s kept told cl kb) : s < w.heap.size := by obtain ⟨A, c, hb, _⟩ := h; exact hb.lt
theorem DStrm.kb_lt {w : World} {s told : Nat} {kept : List Int} {cl : Bool} {kb : Option Nat} (h : DStrm w s kept told cl kb) : ∀ x, kb = some x → s < x ∧ x < w.heap.size := fun x hx => by
  obtain ⟨A, c, hb, ho, hk⟩ := h
  rw [hx] at hk
  exact ⟨own_lo ho x hk, own_hi ho x hk⟩
theorem DStrm.keeps {w w' : World} {s told : Nat} {kept : List Int} {cl : Bool} {kb : Option Nat} {K : List Nat} (h : DStrm w s kept told cl kb) (hk : Keeps K w w') (hs : s ∉ K) (hkb : ∀ x, kb = some x → x ∉ K) : DStrm w' s kept told cl kb := by
  obtain ⟨A, c, h1, h2, h3⟩ := h
  exact ⟨A, c, h1.keeps hk hs, own_keeps h2 hk (fun x hx => hkb x (by rw [← h3]; exact hx)), h3⟩
/-- A row's first byte is laid anew. -/
theorem own_set0 {w : World} {base g n c : Nat} {x : Int} {xs : List Int} (h : w.ownsRow base 5 1 (.slice (some ⟨g, 0, none⟩) n c) n (ints .u8 (x :: xs))) (hu : AllU8 w (.slice (some ⟨g, 0, none⟩) n c)) (y : Int) :
    w.cell? ⟨g, 0, none⟩ = some (.int .u8 x) ∧ w.frozen? ⟨g, 0, none⟩ = false ∧ (w.setCell ⟨g, 0, none⟩ (.int .u8 y)).ownsRow base 5 1 (.slice (some ⟨g, 0, none⟩) n c) n (ints .u8 (y :: xs)) ∧ AllU8 (w.setCell ⟨g, 0, none⟩ (.int .u8 y)) (.slice (some ⟨g, 0, none⟩) n c) := by
  have hl : xs.length + 1 = n := by have := h.1; simpa [ints] using this
  rcases h.2 with ⟨hv, _⟩ | ⟨g', cap, cur, hv, hb, hh, hc, hm, hs, ht⟩
  · injection hv with h1; cases h1
  · injection hv with h1 h2 h3
    injection h1 with h1
    injection h1 with h1
    subst h1
    subst h3
    have hB : Blk w g 5 cur.toList := by unfold Blk; rw [Array.toArray_toList]; exact hh
    obtain ⟨r, hr, htr⟩ : ∃ r, cur.toList = .int .u8 x :: r ∧ r.take xs.length = ints .u8 xs := by
      cases hcl : cur.toList with
      | nil => rw [hcl] at ht; simp [ints] at ht
      | cons a r =>
        rw [hcl, ← hl, Nat.mul_one, List.take_succ_cons] at ht
        simp only [ints, List.map_cons, List.cons.injEq] at ht
        exact ⟨r, by rw [ht.1], ht.2⟩
    have hB2 := hB.set 0 (.int .u8 y)
    rw [hr, List.set_cons_zero] at hB2
    rw [hr] at hB
    have hsz : r.length + 1 = c * 1 := by rw [← hs, ← Array.length_toList, hr]; rfl
    refine ⟨by rw [hB.cell]; rfl, hB.frozen 0, ⟨by simp [ints, hl], .inr ⟨g, c, _, rfl, hb, hB2, hc, hm, by simp; omega, ?_⟩⟩, ?_⟩
    · rw [List.toList_toArray, ← hl, Nat.mul_one, List.take_succ_cons, htr]; rfl
    · intro k hk
      simp only [Value.ownBlock, Option.some.injEq] at hk
      subst hk
      obtain ⟨cur2, q1, q2⟩ := hu g rfl
      have e : cur2 = cur := by
        rw [hh] at q1
        injection q1 with q1
        injection q1 with q1 _ _
        exact q1.symm
      subst e
      refine ⟨_, hB2, fun u hu2 => ?_⟩
      rw [List.toList_toArray] at hu2
      rcases List.mem_cons.1 hu2 with rfl | hm2
      · exact ⟨_, rfl⟩
      · exact q2 u (by rw [hr]; exact List.mem_cons_of_mem _ hm2)
theorem stor_cons (b : Int) (xs : List Int) : ∃ r, storB b xs = b :: r ∧ ∀ c, storB c xs = c :: r := ⟨_, rfl, fun _ => rfl⟩
set_option maxRecDepth 100000 in
theorem dnew_calls (w : World) : Calls Tryd.prog 22 #[] w fun e w' => e = .returned (.pointer (some ⟨w.heap.size, 0, none⟩)) ∧ DStrm w' w.heap.size [] 0 false none ∧ Keeps [] w w' := by
  go_enter Tryd.func22, Tryd.ntmps22
  go_wp2_with fail
  go_ret
  exact ⟨rfl, ⟨none, 0, blk_new w 75 [.slice none 0 0, .int .i64 0, .bool false], World.ownsRow_nil _ _ _ _, rfl⟩, (Keeps.refl [] w).alloc _⟩
/-- What feeding answers: an error, what is told, what is kept, how many were told. -/
def feedD (kept : List Int) (told : Nat) (b : List Int) : Int × List Int × List Int × Nat :=
  if 16384 < told + kept.length + b.length then (2, [], kept, told)
  else if (kept ++ b).length < 4096 then (0, [], kept ++ b, told)
  else (0, storB 0 (kept ++ b), [], told + (kept ++ b).length)
def FeedDP (w : World) (s : Nat) (kept : List Int) (told : Nat) (b : List Int) (kb : Option Nat) (e : Ending) (w' : World) : Prop :=
  ∃ v kb', e = .returned (.tuple #[v, .int .i64 (feedD kept told b).1]) ∧ w'.ownsRow w.heap.size 5 1 v (feedD kept told b).2.1.length (ints .u8 (feedD kept told b).2.1) ∧ AllU8 w' v ∧ DStrm w' s (feedD kept told b).2.2.1 (feedD kept told b).2.2.2 false kb' ∧ (∀ x, kb' = some x → kb = some x ∨ w.heap.size ≤ x) ∧ (kb' = none ∨ v = .slice none 0 0) ∧ Keeps (s :: kb.toList) w w'
theorem dfeed_closed (w : World) (s told : Nat) (kept : List Int) (kb : Option Nat) (A : Option Addr) (n c : Nat) (h : DStrm w s kept told true kb) :
    Calls Tryd.prog 23 #[.pointer (some ⟨s, 0, none⟩), .slice A n c] w fun e w' => e = .returned (.tuple #[.slice none 0 0, .int .i64 1]) ∧ Keeps [] w w' := by
  obtain ⟨A1, c1, hb, -⟩ := h
  have k2 := hb.cell 2
  simp only [List.getElem?_cons_zero, List.getElem?_cons_succ] at k2
  clear hb
  go_enter Tryd.func23, Tryd.ntmps23
  go_wp2_with fail
  go_ret2
  exact ⟨rfl, Keeps.refl _ _⟩
theorem dfeed_nil (w : World) (A : Option Addr) (n c : Nat) :
    Calls Tryd.prog 23 #[.pointer none, .slice A n c] w fun e w' => e = .returned (.tuple #[.slice none 0 0, .int .i64 3]) ∧ Keeps [] w w' := by
  go_enter Tryd.func23, Tryd.ntmps23
  go_wp2_with fail
  go_ret2
  exact ⟨rfl, Keeps.refl _ _⟩
theorem dclose_nil (w : World) :
    Calls Tryd.prog 25 #[.pointer none] w fun e w' => e = .returned (.tuple #[.slice none 0 0, .int .i64 3]) ∧ Keeps [] w w' := by
  go_enter Tryd.func25, Tryd.ntmps25
  go_wp2_with fail
  go_ret2
  exact ⟨rfl, Keeps.refl _ _⟩
theorem dclose_closed (w : World) (s told : Nat) (kept : List Int) (kb : Option Nat) (h : DStrm w s kept told true kb) :
    Calls Tryd.prog 25 #[.pointer (some ⟨s, 0, none⟩)] w fun e w' => e = .returned (.tuple #[.slice none 0 0, .int .i64 1]) ∧ Keeps [] w w' := by
  obtain ⟨A1, c1, hb, -⟩ := h
  have k2 := hb.cell 2
  simp only [List.getElem?_cons_zero, List.getElem?_cons_succ] at k2
  clear hb
  go_enter Tryd.func25, Tryd.ntmps25
  go_wp2_with fail
  go_ret2
  exact ⟨rfl, Keeps.refl _ _⟩
set_option maxRecDepth 100000 in
set_option maxHeartbeats 1000000 in
theorem dclose_calls (w : World) (s told : Nat) (kept : List Int) (kb : Option Nat) (h : DStrm w s kept told false kb) (hT : Tabs w) (hs : gtop ≤ s) (hb : ∀ j, 0 ≤ nth kept j ∧ nth kept j ≤ 255) (hn : kept.length ≤ 16384) :
    Calls Tryd.prog 25 #[.pointer (some ⟨s, 0, none⟩)] w fun e w' => ∃ g m c ys, e = .returned (.tuple #[.slice (some ⟨g, 0, none⟩) m c, .int .i64 0]) ∧ RI .u8 w' (some ⟨g, 0, none⟩) m ys ∧ w.heap.size ≤ g ∧ Defl kept ys ∧ CapOk (some ⟨g, 0, none⟩) m c ∧ DStrm w' s kept told true kb ∧ Keeps [s] w w' := by
  obtain ⟨A, c, hbk, hown, hkb⟩ := h
  have k2 := hbk.cell 2
  have f2 := hbk.frozen 2
  have k0 := (hbk.set 2 (.bool true)).cell 0
  simp only [List.getElem?_cons_zero, List.getElem?_cons_succ, List.set_cons_succ, List.set_cons_zero] at k2 k0
  have hsl := hbk.lt
  have ka : Keeps [s] w (w.setCell ⟨s, 2, none⟩ (.bool true)) := (Keeps.refl [s] w).setCell (p := ⟨s, 2, none⟩) (Or.inl (by simp)) _
  have hown2 := own_keeps hown ka (fun g hg hm => by have := own_lo hown g hg; simp at hm; omega)
  have hri : RI .u8 (w.setCell ⟨s, 2, none⟩ (.bool true)) A kept.length kept ∧ (∀ a, A = some a → a.block < (w.setCell ⟨s, 2, none⟩ (.bool true)).heap.size) ∧ (A = none → kept.length = 0 ∧ c = 0) := by
    obtain ⟨A', c', hv, hr, -, hnil, -, hlo⟩ := own_full hown2
    injection hv with q1 q2 q3
    subst q1
    subst q3
    exact ⟨hr, fun a h => (hlo a h).2, hnil⟩
  have HDC := Lib.hid (deflate_calls (w.setCell ⟨s, 2, none⟩ (.bool true)) A kept.length c kept (hT.keeps ka (by simp; exact hs)) hri.1 hri.2.2 hri.2.1 hb)
  have HD1 : Hid (DStrm (w.setCell ⟨s, 2, none⟩ (.bool true)) s kept told true kb) := Lib.hid ⟨A, c, hbk.set 2 (.bool true), hown2, hkb⟩
  have HKA := Lib.hid ka
  clear hbk hown hkb hown2 hri hT ka hs
  go_enter Tryd.func25, Tryd.ntmps25
  go_wp2_with fail
  refine HDC.out.mono ?_
  rintro e w' (⟨h1, _⟩ | ⟨-, g, m, c2, ys, rfl, hr, hg, hd, hb, hcap⟩)
  · omega
  have HR := Lib.hid hr
  have HG : Hid (w.heap.size ≤ g) := Lib.hid (by simpa using hg)
  have HD := Lib.hid hd
  have HCP := Lib.hid hcap
  have HK2 := Lib.hid (HKA.out.trans ((Keeps.of_below hb (S := [])).mono (by simp)))
  have HD2 := Lib.hid (HD1.out.keeps (Keeps.of_below hb (S := [])) (by simp) (by simp))
  clear hr hg hd hb hcap HDC HD1 HKA
  go_wp2_with fail
  go_ret2
  exact ⟨g, m, c2, ys, rfl, HR.out, HG.out, HD.out, HCP.out, HD2.out, HK2.out⟩
set_option maxRecDepth 100000 in
set_option maxHeartbeats 2000000 in
theorem dfeed_calls (w : World) (s told : Nat) (kept : List Int) (kb : Option Nat) (A : Option Addr) (n c : Nat) (b : List Int) (h : DStrm w s kept told false kb) (hr : RI .u8 w A n b) (hnil : A = none → n = 0 ∧ c = 0) (hn : n ≤ 1000000000) (hk : told + kept.length ≤ 16384) :
    Calls Tryd.prog 23 #[.pointer (some ⟨s, 0, none⟩), .slice A n c] w (FeedDP w s kept told b kb) := by
  have HS := Lib.hid h
  obtain ⟨A1, c1, hbk, hown, hkb⟩ := h
  have k0 := hbk.cell 0
  have k1 := hbk.cell 1
  have k2 := hbk.cell 2
  have f0 := hbk.frozen 0
  have f1 := hbk.frozen 1
  simp only [List.getElem?_cons_zero, List.getElem?_cons_succ] at k0 k1 k2
  have hsl := hbk.lt
  have HBK := Lib.hid hbk
  have HO := Lib.hid hown
  have HKB := Lib.hid hkb
  have HR := Lib.hid hr
  have HN := Lib.hid hnil
  have HLB : Hid (b.length = n) := Lib.hid hr.len
  clear hbk hown hkb hr hnil
  have HLN : Hid ((kept ++ b).length = kept.length + n) := Lib.hid (by rw [List.length_append, HLB.out])
  have s1 : IntKind.i64.wrap ((16384 : Int) - (told : Int)) = 16384 - (told : Int) := IntWalk.i64_in _ (by omega)
  have s2 : IntKind.i64.wrap ((16384 : Int) - (told : Int) - (kept.length : Int)) = 16384 - (told : Int) - (kept.length : Int) := IntWalk.i64_in _ (by omega)
  by_cases hbig : 16384 < told + kept.length + n
  · have x1 : decide ((16384 : Int) - (told : Int) - (kept.length : Int) < (n : Int)) = true := by simp; omega
    have HF : Hid (feedD kept told b = (2, [], kept, told)) := Lib.hid (if_pos (by rw [HLB.out]; exact hbig))
    clear hbig
    go_enter Tryd.func23, Tryd.ntmps23
    go_wp2_with fail
    go_quiet (fail)
    go_wp2_with fail
    go_ret2
    unfold FeedDP
    rw [HF.out]
    exact ⟨.slice none 0 0, kb, rfl, World.ownsRow_nil _ _ _ _, AllU8.nil _, HS.out.keeps (Dr.keeps (S := []) ⟨_, rfl⟩) (by simp) (by simp), fun x hx => .inl hx, .inr rfl, Dr.keeps ⟨_, rfl⟩⟩
  · have x1 : decide ((16384 : Int) - (told : Int) - (kept.length : Int) < (n : Int)) = false := by simp; omega
    have HF0 : Hid (feedD kept told b = if (kept ++ b).length < 4096 then (0, [], kept ++ b, told) else (0, storB 0 (kept ++ b), [], told + (kept ++ b).length)) := Lib.hid (if_neg (by rw [HLB.out]; exact hbig))
    have hN : told + kept.length + n ≤ 16384 := by omega
    clear hbig
    go_enter Tryd.func23, Tryd.ntmps23
    go_wp2_with fail
    go_quiet (fail)
    obtain ⟨w1, hw1⟩ : ∃ x, x = w.drewN nq := ⟨_, rfl⟩
    rw [← hw1]
    have kw : Keeps [] w w1 := by rw [hw1]; exact Dr.keeps ⟨_, rfl⟩
    have KW := Lib.hid kw
    have HBK1 := Lib.hid (HBK.out.keeps kw (by simp))
    have HO1 := Lib.hid (own_keeps HO.out kw (by simp))
    have HR1 := Lib.hid (HR.out.keeps kw (off_nil _))
    have hsz1 : w1.heap.size = w.heap.size := by rw [hw1]; rfl
    replace k0 := HBK1.out.cell 0
    replace k1 := HBK1.out.cell 1
    replace k2 := HBK1.out.cell 2
    simp only [List.getElem?_cons_zero, List.getElem?_cons_succ] at k0 k1 k2
    clear hw1 kw HBK HO HR f0 f1 s1 s2 x1
    go_wp2_with (at_builtin; refine app_bytesU rfl (.tmp 35) (.tmp 36) rfl (s + 1) (.slice A1 kept.length c1) kept.length kept rfl (by exact HO1.out) A n c b rfl (by exact HR1.out) HN.out (by omega) (by omega) ?_)
    intro v' w2 hown hg hwh _
    obtain ⟨A2, c2, rfl⟩ := own_formW hown
    have hb2 : Blk w2 s 75 [.slice A1 kept.length c1, .int .i64 (told : Nat), .bool false] := (hg.block s (by omega) (fun e => by have := own_lo HO1.out _ e.symm; omega)).trans HBK1.out
    have HB2 := Lib.hid hb2
    have HOW := Lib.hid hown
    have HG := Lib.hid hg
    have HWH := Lib.hid hwh
    have f0 := hb2.frozen 0
    have k0' := hb2.cell 0
    simp only [List.getElem?_cons_zero] at k0'
    clear hown hg hwh hb2 k0 k1 k2
    have kg : Keeps kb.toList w1 w2 := ⟨HG.out.os, HG.out.tape, HG.out.output, HG.out.size, fun k hk hn => HG.out.block k hk (fun e => hn (by rw [← HKB.out, ← e]; simp))⟩
    obtain ⟨w3, hw3⟩ : ∃ x, x = w2.setCell ⟨s, 0, none⟩ (.slice A2 (kept.length + n) c2) := ⟨_, rfl⟩
    have HB3 : Hid (Blk w3 s 75 [.slice A2 (kept.length + n) c2, .int .i64 (told : Nat), .bool false]) := Lib.hid (by
      have := HB2.out.set 0 (.slice A2 (kept.length + n) c2)
      rw [hw3]; exact this)
    have HO3 : Hid (w3.ownsRow (s + 1) 5 1 (.slice A2 (kept.length + n) c2) (kept.length + n) (ints .u8 (kept ++ b))) := Lib.hid (by rw [hw3]; exact ownsRow_setCell_below HOW.out (Nat.lt_succ_self s) _)
    have HK3 : Hid (Keeps (s :: kb.toList) w w3) := Lib.hid (by
      rw [hw3]
      exact ((KW.out.mono (by simp)).trans (kg.mono (by intro x hx; exact List.mem_cons_of_mem _ hx))).setCell (p := ⟨s, 0, none⟩) (Or.inl (by simp)) _)
    have HKB2 : Hid (∀ x, (Value.slice A2 (kept.length + n) c2).ownBlock = some x → kb = some x ∨ w.heap.size ≤ x) := Lib.hid (fun x hx => by
      rcases HWH.out with h | h
      · left; rw [← HKB.out, ← h]; exact hx
      · right; rw [h] at hx; injection hx with hx; omega)
    have hs3 : w.heap.size ≤ w3.heap.size := HK3.out.size
    go_upto_region 8 with (fail)
    rw [← hw3]
    clear hw3 kg f0 k0' HB2 HOW HG HWH HBK1 HO1 HR1 KW
    have c0 := HB3.out.cell 0
    simp only [List.getElem?_cons_zero] at c0
    by_cases hsm : kept.length + n < 4096
    · have y1 : decide (((kept.length + n : Nat) : Int) < 4096) = true := by simp; omega
      have y2 : decide ((kept.length : Int) + (n : Int) < 4096) = true := by simp; omega
      have HF : Hid (feedD kept told b = (0, [], kept ++ b, told)) := Lib.hid (by rw [HF0.out, if_pos (by rw [HLN.out]; exact hsm)])
      clear hsm
      go_wp2_with fail
      go_ret2
      unfold FeedDP
      rw [HF.out]
      refine ⟨.slice none 0 0, (Value.slice A2 (kept.length + n) c2).ownBlock, rfl, World.ownsRow_nil _ _ _ _, AllU8.nil _, ⟨A2, c2, ?_, ?_, ?_⟩, HKB2.out, .inr rfl, HK3.out⟩
      · dsimp only; rw [HLN.out]; exact HB3.out
      · dsimp only; rw [HLN.out]; exact HO3.out
      · dsimp only; rw [HLN.out]
    · have y1 : decide (((kept.length + n : Nat) : Int) < 4096) = false := by simp; omega
      have y2 : decide ((kept.length : Int) + (n : Int) < 4096) = false := by simp; omega
      have HF : Hid (feedD kept told b = (0, storB 0 (kept ++ b), [], told + (kept ++ b).length)) := Lib.hid (by rw [HF0.out, if_neg (by rw [HLN.out]; exact hsm)])
      clear hsm
      have hri : RI .u8 w3 A2 (kept.length + n) (kept ++ b) ∧ (A2 = none → kept.length + n = 0 ∧ c2 = 0) := by
        obtain ⟨A', c', hv, hr, -, hnil, -, hlo⟩ := own_full HO3.out
        injection hv with q1 q2 q3
        subst q1
        subst q3
        exact ⟨hr, hnil⟩
      have HSC := Lib.hid (dstored_calls w3 A2 (kept.length + n) c2 (kept ++ b) hri.1 hri.2)
      clear hri
      go_wp2_with fail
      refine HSC.out.mono ?_
      rintro e w4 (⟨h1, _⟩ | ⟨-, v, rfl, ho, hu, hb4⟩)
      · omega
      obtain ⟨g5, c5, rfl, hg5⟩ := own_some ho (by omega)
      obtain ⟨r, hr1, hr0⟩ := stor_cons 1 (kept ++ b)
      rw [hr1] at ho
      obtain ⟨d0, df, ho5, hu5⟩ := own_set0 ho hu 0
      rw [← hr0 0] at ho5
      have k34 := Keeps.of_below hb4 (S := [])
      have hsl3 : s < w3.heap.size := by omega
      have hsg : s ≠ g5 := by omega
      obtain ⟨w5, hw5⟩ : ∃ x, x = w4.setCell ⟨g5, 0, none⟩ (.int .u8 0) := ⟨_, rfl⟩
      have HB5 : Hid (Blk w5 s 75 [.slice A2 (kept.length + n) c2, .int .i64 (told : Nat), .bool false]) := Lib.hid (by rw [hw5]; exact (HB3.out.keeps k34 (by simp)).set_other (a := ⟨g5, 0, none⟩) hsg _)
      have HO5 : Hid (w5.ownsRow w3.heap.size 5 1 (.slice (some ⟨g5, 0, none⟩) (5 + (kept.length + n)) c5) (5 + (kept.length + n)) (ints .u8 (storB 0 (kept ++ b)))) := Lib.hid (by rw [hw5]; exact ho5)
      have HU5 : Hid (AllU8 w5 (.slice (some ⟨g5, 0, none⟩) (5 + (kept.length + n)) c5)) := Lib.hid (by rw [hw5]; exact hu5)
      have HK5 : Hid (Keeps (s :: kb.toList) w w5) := Lib.hid (by
        rw [hw5]
        exact (HK3.out.trans (k34.mono (by simp))).setCell (p := ⟨g5, 0, none⟩) (Or.inr (by show w.heap.size ≤ g5; omega)) _)
      clear ho hu hb4 ho5 hu5 k34 HB3 HO3 HK3 HSC c0
      go_upto_region 14 with (fail)
      rw [← hw5]
      have c0 := HB5.out.cell 0
      have c1 := HB5.out.cell 1
      have f1 := HB5.out.frozen 1
      simp only [List.getElem?_cons_zero, List.getElem?_cons_succ] at c0 c1
      have s3 : IntKind.i64.wrap ((told : Int) + ((kept.length + n : Nat) : Int)) = (told : Int) + ((kept.length + n : Nat) : Int) := IntWalk.i64_in _ (by omega)
      have s4 : IntKind.i64.wrap ((told : Int) + ((kept.length : Int) + (n : Int))) = (told : Int) + ((kept.length : Int) + (n : Int)) := IntWalk.i64_in _ (by omega)
      clear hw5 d0 df
      go_region
      obtain ⟨w6, hw6⟩ : ∃ x, x = (w5.setCell ⟨s, 1, none⟩ (.int .i64 ((told : Int) + ((kept.length : Int) + (n : Int))))).drew := ⟨_, rfl⟩
      rw [← hw6]
      have hb6 : Blk w6 s 75 [.slice A2 (kept.length + n) c2, .int .i64 ((told : Int) + ((kept.length : Int) + (n : Int))), .bool false] := by
        have := (HB5.out.set 1 (.int .i64 ((told : Int) + ((kept.length : Int) + (n : Int))))).drewN 1
        rw [hw6]; exact this
      have HO6 : Hid (w6.ownsRow w3.heap.size 5 1 (.slice (some ⟨g5, 0, none⟩) (5 + (kept.length + n)) c5) (5 + (kept.length + n)) (ints .u8 (storB 0 (kept ++ b)))) := Lib.hid (by
        rw [hw6]
        exact own_keeps (ownsRow_setCell_below HO5.out hsl3 _) (Keeps.refl [] _).drew (by simp))
      have hkk : Keeps [s] w5 w6 := by rw [hw6]; exact ((Keeps.refl [s] w5).setCell (p := ⟨s, 1, none⟩) (Or.inl (by simp)) _).drew
      have HU6 := Lib.hid (HU5.out.keeps hkk (fun k hk hm => by simp only [Value.ownBlock, Option.some.injEq] at hk; simp at hm; omega))
      have HK6 := Lib.hid (HK5.out.trans (hkk.mono (by simp)))
      have HB6 := Lib.hid hb6
      have f0 := hb6.frozen 0
      have d0 := hb6.cell 0
      simp only [List.getElem?_cons_zero] at d0
      clear hw6 hb6 hkk HB5 HO5 HU5 HK5 c0 c1 f1 s3 s4 y1 y2
      go_wp2_with fail
      go_ret2
      unfold FeedDP
      rw [HF.out]
      have hb7 := HB6.out.set 0 (.slice none 0 0)
      rw [List.set_cons_zero] at hb7
      have hlt6 : s < w3.heap.size := hsl3
      refine ⟨.slice (some ⟨g5, 0, none⟩) (5 + (kept.length + n)) c5, none, rfl, ?_, ?_, ⟨none, 0, ?_, World.ownsRow_nil _ _ _ _, rfl⟩, by simp, .inl rfl, HK6.out.setCell (p := ⟨s, 0, none⟩) (Or.inl (by simp)) _⟩
      · dsimp only
        rw [storB_len, HLN.out]
        exact own_lower (ownsRow_setCell_below HO6.out hlt6 _) hs3
      · exact HU6.out.keeps (S := [s]) ((Keeps.refl [s] w6).setCell (p := ⟨s, 0, none⟩) (Or.inl (by simp)) _) (fun k hk hm => by simp only [Value.ownBlock, Option.some.injEq] at hk; simp at hm; omega)
      · dsimp only
        rw [HLN.out, show ((told + (kept.length + n) : Nat) : Int) = (told : Int) + ((kept.length : Int) + (n : Int)) by omega]
        exact hb7
end Go.Proofs.YtkpabdjniiepkaaDoor

set_option linter.unusedVariables false
set_option linter.unusedSimpArgs false
namespace Go.Proofs.YtkpabdjniiepkaaDoor
open Go.RowKit
theorem numB_cons (bs : List Int) (p m : Nat) : numB bs p (m + 1) = 2 * numB bs (p + 1) m + bitAt bs p := by
  rw [Nat.add_comm m 1, numB_add bs p 1 m]
  simp [numB]; omega
set_option maxRecDepth 100000 in
set_option maxHeartbeats 1000000 in
theorem number_calls (w : World) (B : Option Addr) (M c : Nat) (bs : List Int) (p n : Nat) (hb : RI .u8 w B M (bitsP bs M)) (hn : n ≤ 32) (hf : p + n ≤ M) (hM : M ≤ 100000000) :
    Calls Tryd.prog 89 #[.slice B M c, .int .i64 p, .int .i64 n] w fun e w' => e = .returned (.int .u32 (numB bs p n)) ∧ Dr w w' := by
  have HB := Lib.hid hb
  clear hb
  go_enter Tryd.func89, Tryd.ntmps89
  go_wp2_with fail
  go_loopw [7, 8] (fun vv iv wr => ∃ K : Nat, K ≤ n ∧ iv = .int .i64 ((K : Int) - 1) ∧ vv = .int .u32 (numB bs (p + K) (n - K)) ∧ Hid (Dr w wr)) (fun _ iv _ => (intOf iv + 1).toNat)
  case atStart => exact ⟨n, by omega, by go_num, by rw [Nat.sub_self]; rfl, Lib.hid ⟨0, rfl⟩⟩
  case round =>
    obtain ⟨K, hK, rfl, rfl, HD⟩ := hrel
    obtain ⟨q, rfl⟩ := HD.out
    clear HD
    by_cases hk : 0 < K
    · obtain ⟨k, rfl⟩ : ∃ k, K = k + 1 := ⟨K - 1, by omega⟩
      have hk1 : ((k + 1 : Nat) : Int) - 1 = k := by omega
      rw [hk1]
      clear hk1
      have e0 : decide (0 ≤ (k : Int)) = true := by simp
      obtain ⟨b, o, rfl, hc⟩ := HB.out.at (j := p + k) (by omega)
      rw [bitsP_nth _ _ _ (by omega)] at hc
      have HN : Hid (numB bs (p + k) (n - k) = 2 * numB bs (p + (k + 1)) (n - (k + 1)) + bitAt bs (p + k)) := Lib.hid (by
        rw [show n - k = (n - (k + 1)) + 1 by omega, numB_cons]; rfl)
      obtain ⟨b0, b1⟩ := bitAt_le bs (p + k)
      obtain ⟨n0, n1⟩ := numB_lt bs (p + k) (n - k)
      have n2 := pow32 (n - k) (by omega)
      obtain ⟨m0, m1⟩ := numB_lt bs (p + (k + 1)) (n - (k + 1))
      rw [HN.out] at n1
      have HN2 := Lib.hid HN.out.symm
      clear n0 HN
      have n3 : 2 * numB bs (p + (k + 1)) (n - (k + 1)) + bitAt bs (p + k) < 4294967296 := by omega
      clear n1 n2 m1
      generalize numB bs (p + (k + 1)) (n - (k + 1)) = v at *
      generalize bitAt bs (p + k) = z at *
      go_wp2_with fail
      go_roundw
      case rel => exact ⟨k, by omega, by go_num, by rw [← HN2.out], Lib.hid ⟨_, rfl⟩⟩
      case measure => simp [intOf]
    · obtain rfl : K = 0 := by omega
      have e0 : decide (0 ≤ ((0 : Nat) : Int) - 1) = false := by simp
      go_wp2_with fail
      go_ret
      exact ⟨rfl, _, rfl⟩
end Go.Proofs.YtkpabdjniiepkaaDoor

set_option linter.unusedVariables false
set_option linter.unusedSimpArgs false
namespace Go.Proofs.YtkpabdjniiepkaaDoor
open Go.RowKit
/-- What reading by rows is to give. -/
def Next3 (w : World) (r : Int × Nat × Int) (e : Ending) (w' : World) : Prop :=
  e = .returned (.tuple #[.int .i64 r.1, .int .i64 (r.2.1 : Nat), .int .i64 r.2.2]) ∧ Dr w w'
theorem next3 {w w' : World} {r : Int × Nat × Int} {s e k : Int} {n : Nat} (hr : r = (s, n, e)) (hk : k = n) (h : Dr w w') : Next3 w r (.returned (.tuple #[.int .i64 s, .int .i64 k, .int .i64 e])) w' := by
  subst hr; subst hk; exact ⟨rfl, h⟩
set_option maxRecDepth 100000 in
set_option maxHeartbeats 1000000 in
theorem refNext_calls (w : World) (g n : Nat) (rs : List (List Int)) (B : Option Addr) (m c : Nat) (bl : List Int) (p : Nat) (hB : RB w g n rs) (hb : RI .u8 w B m bl) (hp : p ≤ m) (hm : m ≤ 100000000) (hn : n ≤ 288) (hrow : ∀ j, (rth rs j).length ≤ 15) :
    Calls Tryd.prog 100 #[.slice (some ⟨g, 0, none⟩) n n, .slice B m c, .int .i64 p] w (Next3 w (nextR rs bl p)) := by
  have HB := Lib.hid hB
  have HBL := Lib.hid hb
  have HLL := Lib.hid hb.len
  have HRL := Lib.hid hB.len
  have HRW := Lib.hid hrow
  clear hB hb hrow
  go_enter Tryd.func100, Tryd.ntmps100
  go_wp2_with fail
  go_loopw [9, 10] (fun bv iv wr => ∃ (b : Bool) (i : Nat), i ≤ n ∧ bv = .bool b ∧ iv = .int .i64 i ∧ Hid (nextR rs bl p = nextG rs bl p (n - i) i b) ∧ Hid (Dr w wr)) (fun _ iv _ => n - (intOf iv).toNat)
  case atStart => exact ⟨false, 0, by omega, rfl, rfl, Lib.hid (by rw [Nat.sub_zero]; unfold nextR; rw [HRL.out]), Lib.hid ⟨0, rfl⟩⟩
  case round =>
    obtain ⟨b, i, hi, rfl, rfl, HR, HD⟩ := hrel
    obtain ⟨q, rfl⟩ := HD.out
    clear HD
    by_cases hlt : i < n
    · obtain ⟨A', c', hcr, hri, hra⟩ := HB.out.at hlt
      have e0 : decide ((i : Int) < (n : Int)) = true := by simpa using hlt
      have HST : Hid (nextG rs bl p (n - i) i b = if (rth rs i).length = 0 then nextG rs bl p (n - (i + 1)) (i + 1) b else
          if agrN (rth rs i) bl p = (rth rs i).length then ((i : Int), (rth rs i).length, 0)
          else nextG rs bl p (n - (i + 1)) (i + 1) (b || decide (p + agrN (rth rs i) bl p = bl.length))) := by
        show _ = _
        rw [show n - i = (n - (i + 1)) + 1 by omega, nextG]
      have hk15 := HRW.out i
      obtain ⟨K, hK⟩ : ∃ K, K = (rth rs i).length := ⟨_, rfl⟩
      rw [← hK] at hcr hri hk15
      have HK := Lib.hid hK
      have HRI := Lib.hid hri
      clear hK hri hra
      by_cases hz : K = 0
      · have e1 : ((K : Int) == 0) = true := by simpa using hz
        have HN : Hid (nextR rs bl p = nextG rs bl p (n - (i + 1)) (i + 1) b) := by
          show _ = _
          rw [HR.out, HST.out, if_pos (by rw [← HK.out]; exact hz)]
        clear HST HR
        go_wp2_with fail
        go_roundw
        case rel => exact ⟨b, i + 1, by omega, rfl, by go_num, HN, Lib.hid ⟨_, rfl⟩⟩
        case measure => simp [intOf]; omega
      · have e1 : ((K : Int) == 0) = false := by simpa using hz
        have HN : Hid (nextR rs bl p = if agrN (rth rs i) bl p = K then ((i : Int), K, 0)
          else nextG rs bl p (n - (i + 1)) (i + 1) (b || decide (p + agrN (rth rs i) bl p = bl.length))) := by
          show _ = _
          rw [HR.out, HST.out, if_neg (by rw [← HK.out]; exact hz), HK.out]
        have HAG0 : Hid (agrN (rth rs i) bl p = agr (rth rs i) bl p (K - 0) 0) := by
          show _ = _
          rw [Nat.sub_zero]; unfold agrN; rw [HK.out]
        clear HST HR
        go_wp2_with fail
        go_loopw [11] (fun nv wx => ∃ t : Nat, t ≤ K ∧ nv = .int .i64 t ∧ p + t ≤ m ∧ Hid (agrN (rth rs i) bl p = agr (rth rs i) bl p (K - t) t) ∧ Hid (Dr w wx)) (fun nv _ => K - (intOf nv).toNat)
        case atStart => exact ⟨0, by omega, rfl, by omega, HAG0, Lib.hid ⟨_, rfl⟩⟩
        case round =>
          clear HAG0
          obtain ⟨t, ht, rfl, hpt, HAG, HD⟩ := hrel
          obtain ⟨q2, rfl⟩ := HD.out
          clear HD
          by_cases htk : t < K
          · have e2 : decide ((t : Int) < (K : Int)) = true := by simpa using htk
            have e5 : ((t : Int) == (K : Int)) = false := by simp; omega
            by_cases hpm : p + t < m
            · have e3 : decide ((p : Int) + (t : Int) < (m : Int)) = true := by simp; omega
              have e6 : ((p : Int) + (t : Int) == (m : Int)) = false := by simp; omega
              obtain ⟨rb, ro, rfl, hc1⟩ := HRI.out.at htk
              obtain ⟨bb, bo, rfl, hc2⟩ := HBL.out.at hpm
              by_cases heq : nth (rth rs i) t = nth bl (p + t)
              · have e4 : (nth (rth rs i) t == nth bl (p + t)) = true := by simpa using heq
                have HAG2 : Hid (agrN (rth rs i) bl p = agr (rth rs i) bl p (K - (t + 1)) (t + 1)) := by
                  show _ = _
                  rw [HAG.out, show K - t = (K - (t + 1)) + 1 by omega, agr, if_pos ⟨by rw [← HK.out]; exact htk, by rw [HLL.out]; exact hpm, heq⟩]
                clear HAG
                generalize nth (rth rs i) t = x at *
                generalize nth bl (p + t) = y at *
                go_wp2_with fail
                go_quiet (fail)
                go_wp2_with fail
                go_roundw
                case rel => exact ⟨t + 1, by omega, by go_num, by omega, HAG2, Lib.hid ⟨_, rfl⟩⟩
                case measure => simp [intOf]; omega
              · have e4 : (nth (rth rs i) t == nth bl (p + t)) = false := by simpa using heq
                have HN2 : Hid (nextR rs bl p = nextG rs bl p (n - (i + 1)) (i + 1) b) := by
                  show _ = _
                  have ha : agrN (rth rs i) bl p = t := by rw [HAG.out, show K - t = (K - (t + 1)) + 1 by omega, agr, if_neg (fun h => heq h.2.2)]
                  rw [HN.out, ha, if_neg (by omega), decide_eq_false (by rw [HLL.out]; omega), Bool.or_false]
                clear HAG HN
                generalize nth (rth rs i) t = x at *
                generalize nth bl (p + t) = y at *
                cases b
                · go_wp2_with fail
                  go_quiet (fail)
                  go_wp2_with fail
                  go_roundw
                  case rel => exact ⟨false, i + 1, by omega, rfl, by go_num, HN2, Lib.hid ⟨_, rfl⟩⟩
                  case measure => simp [intOf]; omega
                · go_wp2_with fail
                  go_quiet (fail)
                  go_wp2_with fail
                  go_roundw
                  case rel => exact ⟨true, i + 1, by omega, rfl, by go_num, HN2, Lib.hid ⟨_, rfl⟩⟩
                  case measure => simp [intOf]; omega
            · have e3 : decide ((p : Int) + (t : Int) < (m : Int)) = false := by simp; omega
              have e6 : ((p : Int) + (t : Int) == (m : Int)) = true := by simp; omega
              have HN2 : Hid (nextR rs bl p = nextG rs bl p (n - (i + 1)) (i + 1) true) := by
                show _ = _
                have ha : agrN (rth rs i) bl p = t := by rw [HAG.out, show K - t = (K - (t + 1)) + 1 by omega, agr, if_neg (fun h => by have := h.2.1; rw [HLL.out] at this; omega)]
                rw [HN.out, ha, if_neg (by omega), decide_eq_true (by rw [HLL.out]; omega), Bool.or_true]
              clear HAG HN
              cases b
              · go_wp2_with fail
                go_quiet (fail)
                go_wp2_with fail
                go_roundw
                case rel => exact ⟨true, i + 1, by omega, rfl, by go_num, HN2, Lib.hid ⟨_, rfl⟩⟩
                case measure => simp [intOf]; omega
              · go_wp2_with fail
                go_quiet (fail)
                go_wp2_with fail
                go_roundw
                case rel => exact ⟨true, i + 1, by omega, rfl, by go_num, HN2, Lib.hid ⟨_, rfl⟩⟩
                case measure => simp [intOf]; omega
          · obtain rfl : t = K := by omega
            have e2 : decide ((t : Int) < (t : Int)) = false := by simp
            have e5 : ((t : Int) == (t : Int)) = true := by simp
            have HN2 : Hid (nextR rs bl p = ((i : Int), t, 0)) := by
              show _ = _
              rw [HN.out, HAG.out, Nat.sub_self, agr, if_pos rfl]
            clear HAG HN
            go_wp2_with fail
            go_quiet (fail)
            go_wp2_with fail
            go_ret3
            exact next3 HN2.out rfl ⟨_, rfl⟩
    · obtain rfl : i = n := by omega
      have e0 : decide ((i : Int) < (i : Int)) = false := by simp
      have HN : Hid (nextR rs bl p = (0, 0, if b then 10 else 32)) := by show _ = _; rw [HR.out, Nat.sub_self, nextG]
      cases b
      · go_wp2_with fail
        go_ret3
        exact next3 HN.out rfl ⟨_, rfl⟩
      · go_wp2_with fail
        go_ret3
        exact next3 HN.out rfl ⟨_, rfl⟩
end Go.Proofs.YtkpabdjniiepkaaDoor

set_option linter.unusedVariables false
set_option linter.unusedSimpArgs false
namespace Go.Proofs.YtkpabdjniiepkaaDoor
open Go.RowKit
theorem grown_keepsR {w w' : World} {row : Option Nat} (h : w.grownBy w' row) : Keeps row.toList w w' :=
  ⟨h.os, h.tape, h.output, h.size, fun k hk hm => h.block k hk (fun e => hm (Option.mem_toList.2 e.symm))⟩
theorem own_formR {w : World} {base : Nat} {e : TypeId} {size n : Nat} {v : Value} {xs : List Value} (h : w.ownsRow base e size v n xs) : ∃ A c, v = .slice A n c := by
  rcases h.2 with ⟨rfl, rfl⟩ | ⟨g, cap, cur, rfl, _⟩
  · exact ⟨_, _, rfl⟩
  · exact ⟨_, _, rfl⟩
/-- The reference's reading under way. -/
structure RD (w : World) (g : Nat) (B : Option Addr) (M c : Nat) (bs : List Int) (p : Nat) (out : List Int) (most : Nat) (e : Int) (ob : Option Nat) : Prop where
  box : ∃ v, Blk w g 82 [.slice B M c, .int .i64 p, v, .int .i64 most, .int .i64 e] ∧ w.ownsRow (g + 1) 5 1 v out.length (ints .u8 out) ∧ v.ownBlock = ob
  ri : RI .u8 w B M (bitsP bs M)
  lo : ∀ a, B = some a → a.block < g
  len : M = 8 * bs.length
  le : p ≤ M
  cap : out.length ≤ most
  mx : most ≤ 16384
  sz : M ≤ 100000000
/-- What may have turned: the reading, the row that it lays. -/
structure FR (g : Nat) (ob ob' : Option Nat) (w w' : World) : Prop where
  keeps : Keeps (g :: ob.toList) w w'
  row : ∀ x, ob' = some x → ob = some x ∨ w.heap.size ≤ x
theorem FR.refl (g : Nat) (ob : Option Nat) (w : World) : FR g ob ob w w := ⟨Keeps.refl _ _, fun _ h => .inl h⟩
theorem FR.trans {g : Nat} {o1 o2 o3 : Option Nat} {a b c : World} (h : FR g o1 o2 a b) (k : FR g o2 o3 b c) : FR g o1 o3 a c :=
  ⟨h.keeps.then k.keeps (fun x hx => by
    rcases List.mem_cons.1 hx with e | e
    · exact .inl (by rw [e]; exact List.mem_cons_self)
    · rcases h.row x (Option.mem_toList.1 e) with r | r
      · exact .inl (List.mem_cons_of_mem _ (Option.mem_toList.2 r))
      · exact .inr r), fun x hx => by
    rcases k.row x hx with r | r
    · exact h.row x r
    · exact .inr (Nat.le_trans h.keeps.size r)⟩
theorem FR.of_keeps {g : Nat} {ob : Option Nat} {w w' : World} (h : Keeps [g] w w') : FR g ob ob w w' :=
  ⟨h.mono (fun x hx => by rw [List.mem_singleton.1 hx]; exact List.mem_cons_self), fun _ h => .inl h⟩
theorem FR.of_nil {g : Nat} {ob : Option Nat} {w w' : World} (h : Keeps [] w w') : FR g ob ob w w' := FR.of_keeps (h.mono (by simp))
theorem FR.new {g : Nat} {ob : Option Nat} {w0 w w' : World} {o : Option Nat} (hk : Keeps [] w0 w) (h : FR g o ob w w') (hg : w0.heap.size ≤ g) (ho : ∀ x, o = some x → w0.heap.size ≤ x) : Keeps [] w0 w' :=
  hk.then h.keeps (fun x hx => by
    rcases List.mem_cons.1 hx with e | e
    · exact .inr (by omega)
    · exact .inr (ho x (Option.mem_toList.1 e)))
theorem RD.lt {w : World} {g M c p most : Nat} {B : Option Addr} {bs out : List Int} {e : Int} {ob : Option Nat} (h : RD w g B M c bs p out most e ob) : g < w.heap.size := by obtain ⟨v, h1, _⟩ := h.box; exact h1.lt
theorem RD.oblo {w : World} {g M c p most : Nat} {B : Option Addr} {bs out : List Int} {e : Int} {ob : Option Nat} (h : RD w g B M c bs p out most e ob) : ∀ x, ob = some x → g < x ∧ x < w.heap.size := by
  obtain ⟨v, h1, h2, h3⟩ := h.box
  intro x hx
  rw [← h3] at hx
  exact ⟨own_lo h2 x hx, own_hi h2 x hx⟩
theorem RD.keeps {w w' : World} {g M c p most : Nat} {B : Option Addr} {bs out : List Int} {e : Int} {ob : Option Nat} (h : RD w g B M c bs p out most e ob) (hk : Keeps [] w w') : RD w' g B M c bs p out most e ob := by
  obtain ⟨v, h1, h2, h3⟩ := h.box
  exact ⟨⟨v, h1.keeps hk (by simp), own_keeps h2 hk (by simp), h3⟩, h.ri.keeps hk (off_nil _), h.lo, h.len, h.le, h.cap, h.mx, h.sz⟩
theorem RD.cells {w : World} {g M c p most : Nat} {B : Option Addr} {bs out : List Int} {e : Int} {ob : Option Nat} (h : RD w g B M c bs p out most e ob) :
    w.cell? ⟨g, 0, none⟩ = some (.slice B M c) ∧ w.cell? ⟨g, 1, none⟩ = some (.int .i64 p) ∧ w.cell? ⟨g, 3, none⟩ = some (.int .i64 most) ∧ w.cell? ⟨g, 4, none⟩ = some (.int .i64 e) ∧
    ∃ v vc, w.cell? ⟨g, 2, none⟩ = some (.slice v out.length vc) ∧ RI .u8 w v out.length out := by
  obtain ⟨v, hb, ho, -⟩ := h.box
  obtain ⟨vA, vc, rfl, hri, -, -⟩ := own_ri ho
  have c0 := hb.cell 0
  have c1 := hb.cell 1
  have c2 := hb.cell 2
  have c3 := hb.cell 3
  have c4 := hb.cell 4
  simp only [List.getElem?_cons_zero, List.getElem?_cons_succ] at c0 c1 c2 c3 c4
  exact ⟨c0, c1, c3, c4, vA, vc, c2, hri⟩
theorem RD.free {w : World} {g M c p most : Nat} {B : Option Addr} {bs out : List Int} {e : Int} {ob : Option Nat} (h : RD w g B M c bs p out most e ob) (j : Nat) : w.frozen? ⟨g, j, none⟩ = false := by
  obtain ⟨v, hb, -⟩ := h.box; exact hb.frozen j
/-- The place is set. -/
theorem RD.place {w : World} {g M c p most : Nat} {B : Option Addr} {bs out : List Int} {e : Int} {ob : Option Nat} (h : RD w g B M c bs p out most e ob) {q : Nat} (hq : q ≤ M) : RD (w.setCell ⟨g, 1, none⟩ (.int .i64 q)) g B M c bs q out most e ob := by
  obtain ⟨v, h1, h2, h3⟩ := h.box
  have hb := h1.set 1 (.int .i64 q)
  simp only [List.set_cons_succ, List.set_cons_zero] at hb
  exact ⟨⟨v, hb, ownsRow_setCell_below h2 (a := ⟨g, 1, none⟩) (Nat.lt_succ_self g) _, h3⟩, h.ri.keeps ((Keeps.refl [g] w).setCell (Or.inl (by simp)) _) (fun a ha hm => by have := h.lo a ha; rw [List.mem_singleton.1 hm] at this; omega), h.lo, h.len, hq, h.cap, h.mx, h.sz⟩
/-- What is wrong is set. -/
theorem RD.wrong {w : World} {g M c p most : Nat} {B : Option Addr} {bs out : List Int} {e : Int} {ob : Option Nat} (h : RD w g B M c bs p out most e ob) (e' : Int) : RD (w.setCell ⟨g, 4, none⟩ (.int .i64 e')) g B M c bs p out most e' ob := by
  obtain ⟨v, h1, h2, h3⟩ := h.box
  have hb := h1.set 4 (.int .i64 e')
  simp only [List.set_cons_succ, List.set_cons_zero] at hb
  exact ⟨⟨v, hb, ownsRow_setCell_below h2 (a := ⟨g, 4, none⟩) (Nat.lt_succ_self g) _, h3⟩, h.ri.keeps ((Keeps.refl [g] w).setCell (Or.inl (by simp)) _) (fun a ha hm => by have := h.lo a ha; rw [List.mem_singleton.1 hm] at this; omega), h.lo, h.len, h.le, h.cap, h.mx, h.sz⟩
theorem keepsCell (w : World) (g j : Nat) (v : Value) : Keeps [g] w (w.setCell ⟨g, j, none⟩ v) := (Keeps.refl [g] w).setCell (p := ⟨g, j, none⟩) (Or.inl (by simp)) v
/-- What taking bits answers. -/
def RTook (w : World) (g : Nat) (B : Option Addr) (M c : Nat) (bs : List Int) (p : Nat) (out : List Int) (most : Nat) (e : Int) (ob : Option Nat) (n : Nat) (r : Ending) (w' : World) : Prop :=
  ∃ (v : Int) (p' : Nat) (e' : Int), r = .returned (.int .i64 v) ∧ RD w' g B M c bs p' out most e' ob ∧ Keeps [g] w w' ∧ 0 ≤ v ∧ v < 2 ^ n ∧ p ≤ p' ∧
    ((e = 0 ∧ p + n ≤ M ∧ e' = 0 ∧ v = numB bs p n ∧ p' = p + n) ∨ (e = 0 ∧ M < p + n ∧ e' = 55 ∧ v = 0 ∧ p' = p) ∨ (e ≠ 0 ∧ e' = e ∧ v = 0 ∧ p' = p))
set_option maxRecDepth 100000 in
set_option maxHeartbeats 1000000 in
theorem rtake_calls (w : World) (g : Nat) (B : Option Addr) (M c : Nat) (bs : List Int) (p : Nat) (out : List Int) (most : Nat) (e : Int) (ob : Option Nat) (n : Nat) (ni : Int) (hni : ni = n) (h : RD w g B M c bs p out most e ob) (hn : n ≤ 16) :
    Calls Tryd.prog 68 #[.pointer (some ⟨g, 0, none⟩), .int .i64 ni] w (RTook w g B M c bs p out most e ob n) := by
  subst hni
  have H := Lib.hid h
  obtain ⟨c0, c1, -, c4, -⟩ := h.cells
  have hle := h.le
  have hsz := h.sz
  have hp2 := pow_cast n
  clear h
  go_enter Tryd.func68, Tryd.ntmps68
  by_cases he : e ≠ 0
  · have e1 : (e != 0) = true := by simpa using he
    have HE := Lib.hid he
    clear he
    go_wp2_with fail
    go_ret
    exact ⟨0, p, e, rfl, H.out, Keeps.refl _ _, by omega, hp2, Nat.le_refl _, .inr (.inr ⟨HE.out, rfl, rfl, rfl⟩)⟩
  obtain rfl : e = 0 := Classical.not_not.1 he
  clear he
  have s1 : IntKind.i64.wrap ((M : Int) - (p : Int)) = (M : Int) - (p : Int) := IntWalk.i64_in _ (by omega)
  by_cases hf : M < p + n
  · have e3 : decide ((M : Int) - (p : Int) < (n : Int)) = true := by simp; omega
    have f4 := H.out.free 4
    go_wp2_with fail
    go_quiet (fail)
    go_wp2_with fail
    go_ret
    exact ⟨0, p, 55, rfl, (H.out.keeps ((Keeps.refl [] w).drewN _)).wrong 55, ((Keeps.refl [g] w).drewN _).trans (keepsCell _ g 4 _), by omega, hp2, Nat.le_refl _, .inr (.inl ⟨rfl, hf, rfl, rfl, rfl⟩)⟩
  · have e3 : decide ((M : Int) - (p : Int) < (n : Int)) = false := by simp; omega
    go_wp2_with fail
    go_quiet (fail)
    go_wp2_with fail
    obtain ⟨w1, hw1⟩ : ∃ w1 : World, w1 = w.drewN nq := ⟨_, rfl⟩
    have hk1 : Keeps [] w w1 := by rw [hw1]; exact (Keeps.refl [] w).drewN _
    rw [← hw1]
    clear hw1 c0 c1 c4
    have H1 := Lib.hid (H.out.keeps hk1)
    obtain ⟨c0, c1, -, c4, -⟩ := H1.out.cells
    go_still_tail 9, (by kernel_rfl)
    change wpList _ _ _ _ _ w1.drew
    have hk2 := (Keeps.refl [] w1).drew
    have H2 := Lib.hid (H1.out.keeps hk2)
    have HK2 := Lib.hid (hk1.trans hk2)
    clear hk1 hk2 H H1 c0 c1 c4
    go_wp2_with fail
    refine (number_calls _ B M c bs p n H2.out.ri (by omega) (by omega) hsz).mono ?_
    rintro _ w3 ⟨rfl, hd3⟩
    have H3 := Lib.hid (H2.out.keeps (hd3.keeps (S := [])))
    have HK3 := Lib.hid (HK2.out.trans (hd3.keeps (S := [])))
    obtain ⟨-, c1, -, -, -⟩ := H3.out.cells
    have f1 := H3.out.free 1
    obtain ⟨n0, n1⟩ := numB_lt bs p n
    have n2 := pow16 n hn
    obtain ⟨x, hx⟩ : ∃ x, x = numB bs p n := ⟨_, rfl⟩
    have HX := Lib.hid hx
    have n3 : x ≤ 65536 := by omega
    rw [← hx] at n0 n1 ⊢
    have HN1 := Lib.hid n1
    have e5 : IntKind.i64.wrap x = x := IntWalk.i64_in _ (by omega)
    have e6 : IntKind.i64.wrap ((p : Int) + n) = (p : Int) + n := IntWalk.i64_in _ (by omega)
    clear hd3 H2 HK2 hx n1 n2 hp2
    go_wp2_with fail
    go_ret
    have hpl := H3.out.place (show p + n ≤ M by omega)
    rw [show ((p + n : Nat) : Int) = (p : Int) + n by omega] at hpl
    exact ⟨x, p + n, 0, rfl, hpl, (HK3.out.mono (by simp)).trans (keepsCell _ g 1 _), n0, HN1.out, by omega, .inl ⟨rfl, by omega, rfl, HX.out, rfl⟩⟩
end Go.Proofs.YtkpabdjniiepkaaDoor

set_option linter.unusedVariables false
set_option linter.unusedSimpArgs false
namespace Go.Proofs.YtkpabdjniiepkaaDoor
open Go.RowKit
/-- What a part of the reference's reading gives. -/
def RPart (w : World) (g : Nat) (B : Option Addr) (M c : Nat) (bs : List Int) (most : Nat) (ob : Option Nat) (r : IRes) (e : Ending) (w' : World) : Prop :=
  ∃ q ob', e = .returned (.tuple #[]) ∧ RD w' g B M c bs q r.1 most r.2.2 ob' ∧ FR g ob ob' w w' ∧ (r.2.2 = 0 → q = r.2.1)
theorem rpart_ok {w w' : World} {g M c most q : Nat} {B : Option Addr} {bs out : List Int} {ob ob' : Option Nat} {r : IRes} (hr : r = (out, q, 0)) (h : RD w' g B M c bs q out most 0 ob') (k : FR g ob ob' w w') : RPart w g B M c bs most ob r (.returned (.tuple #[])) w' := by
  subst hr; exact ⟨q, ob', rfl, h, k, fun _ => rfl⟩
theorem rpart_err {w w' : World} {g M c most q : Nat} {B : Option Addr} {bs out : List Int} {ob ob' : Option Nat} {r : IRes} {e : Int} (hr : r = (out, 0, e)) (he : e ≠ 0) (h : RD w' g B M c bs q out most e ob') (k : FR g ob ob' w w') : RPart w g B M c bs most ob r (.returned (.tuple #[])) w' := by
  subst hr; exact ⟨q, ob', rfl, h, k, fun h => absurd h he⟩
/-- What laying a byte gives. -/
def RLay (w : World) (g : Nat) (B : Option Addr) (M c : Nat) (bs : List Int) (p : Nat) (out : List Int) (most : Nat) (e : Int) (ob : Option Nat) (x : Int) (r : Ending) (w' : World) : Prop :=
  r = .returned (.tuple #[]) ∧
      ((e ≠ 0 ∧ RD w' g B M c bs p out most e ob ∧ FR g ob ob w w') ∨ (e = 0 ∧ most ≤ out.length ∧ RD w' g B M c bs p out most 56 ob ∧ FR g ob ob w w') ∨
       (e = 0 ∧ out.length < most ∧ ∃ ob', RD w' g B M c bs p (out ++ [x]) most 0 ob' ∧ FR g ob ob' w w'))
set_option maxRecDepth 100000 in
set_option maxHeartbeats 1000000 in
theorem rlay_calls (w : World) (g : Nat) (B : Option Addr) (M c : Nat) (bs : List Int) (p : Nat) (out : List Int) (most : Nat) (e : Int) (ob : Option Nat) (x : Int) (h : RD w g B M c bs p out most e ob) :
    Calls Tryd.prog 90 #[.pointer (some ⟨g, 0, none⟩), .int .u8 x] w (RLay w g B M c bs p out most e ob x) := by
  have H := Lib.hid h
  obtain ⟨-, -, c3, c4, -⟩ := h.cells
  have hcap := h.cap
  have hmx := h.mx
  obtain ⟨v, hblk, hown, hob⟩ := h.box
  obtain ⟨vA, vc, rfl⟩ := own_formR hown
  have c2 := hblk.cell 2
  simp only [List.getElem?_cons_zero, List.getElem?_cons_succ] at c2
  have f2 := hblk.frozen 2
  have hlt := hblk.lt
  have HO := Lib.hid hown
  have HB := Lib.hid hblk
  have HOB := Lib.hid hob
  clear h hblk hown hob
  obtain ⟨L, hL⟩ : ∃ L, L = out.length := ⟨_, rfl⟩
  have HL := Lib.hid hL
  rw [← hL] at HO c2 HB HOB hcap
  clear hL
  go_enter Tryd.func90, Tryd.ntmps90
  by_cases he : e ≠ 0
  · have e1 : (e != 0) = true := by simpa using he
    have HE := Lib.hid he
    clear he
    go_wp2_with fail
    exact bodyPost_ret (v := .tuple #[]) (results_none rfl _ _ _) rfl ⟨rfl, .inl ⟨HE.out, H.out, FR.refl _ _ _⟩⟩
  obtain rfl : e = 0 := Classical.not_not.1 he
  clear he
  by_cases hm : most ≤ L
  · have e1 : decide (most ≤ L) = true := by simpa using hm
    have e1' : decide ((most : Int) ≤ (L : Int)) = true := by simp; omega
    have f4 := H.out.free 4
    go_wp2_with fail
    go_quiet (fail)
    have HM2 := Lib.hid hm
    clear hm
    go_wp2_with fail
    exact bodyPost_ret (v := .tuple #[]) (results_none rfl _ _ _) rfl ⟨rfl, .inr (.inl ⟨rfl, by rw [← HL.out]; exact HM2.out, (H.out.keeps ((Keeps.refl [] w).drewN _)).wrong 56, FR.of_keeps (((Keeps.refl [g] w).drewN _).trans (keepsCell _ g 4 _))⟩)⟩
  · have e1 : decide (most ≤ L) = false := by simpa using hm
    have e1' : decide ((most : Int) ≤ (L : Int)) = false := by simp; omega
    go_wp2_with fail
    go_quiet (fail)
    have hkq : Keeps [] w (w.drewN nq) := (Keeps.refl [] w).drewN nq
    obtain ⟨wq, hwq⟩ : ∃ z, z = w.drewN nq := ⟨_, rfl⟩
    rw [← hwq] at hkq ⊢
    clear hwq
    have ka : Keeps [] wq (wq.alloc (.cells #[.int .u8 x] 5)) := (Keeps.refl [] wq).alloc _
    have HOA := Lib.hid (own_keeps HO.out (hkq.trans ka) (by simp))
    have HBA := Lib.hid (HB.out.keeps (hkq.trans ka) (by simp))
    have HQ := Lib.hid (H.out.keeps (hkq.trans ka))
    have HKA := Lib.hid (hkq.trans ka)
    have HRI : Hid (RI .u8 (wq.alloc (.cells #[.int .u8 x] 5)) (some ⟨wq.heap.size, 0, none⟩) 1 [x]) := Lib.hid (Blk.ri (xs := [x]) (ys := []) (k := .u8) (by simpa [ints] using blk_new wq 5 (ints .u8 [x])))
    have c2' := hkq.cell (by simp) c2
    have hltq : g < wq.heap.size := Nat.lt_of_lt_of_le hlt hkq.size
    clear c2 c3 c4 f2 hkq ka HO HB H e1
    go_wp2_with (at_builtin; refine app_bytesB rfl (.tmp 26) (.tmp 28) rfl (g + 1) _ _ out rfl (by exact HOA.out) _ 1 1 [x] rfl (by exact HRI.out) (by simp) (by omega) ?c4 ?_)
    case c4 => simp; omega
    intro v1 w1 ho1 hg1 hwh
    have hg0 : ∀ k, (Value.slice vA L vc).ownBlock = some k → g + 1 ≤ k := fun k hk => own_lo HOA.out k hk
    have hblk1 : Blk w1 g 82 [.slice B M c, .int .i64 p, .slice vA L vc, .int .i64 most, .int .i64 0] := (hg1.block g (Nat.lt_trans hltq (by simp)) (fun e => by have := hg0 g e.symm; omega)).trans HBA.out
    have kg := grown_keepsR hg1
    have HRI1 := Lib.hid (HQ.out.ri.keeps kg (fun a ha hm => by have := hg0 a.block (Option.mem_toList.1 hm); have := HQ.out.lo a ha; omega))
    have HK1 : Hid (Keeps (g :: ob.toList) w w1) := Lib.hid ((HKA.out.mono (by simp)).trans (kg.mono (fun y hy => by rw [HOB.out] at hy; exact List.mem_cons_of_mem _ hy)))
    obtain ⟨vB, vd, rfl⟩ : ∃ A c, v1 = .slice A (L + 1) c := own_formR ho1
    have HO1 := Lib.hid ho1
    have HROW : Hid (∀ y, (Value.slice vB (L + 1) vd).ownBlock = some y → ob = some y ∨ w.heap.size ≤ y) := Lib.hid (fun y hy => by
      rcases hwh with e | e
      · exact .inl (by rw [← HOB.out, ← e]; exact hy)
      · rw [e] at hy
        injection hy with hy
        have hz := HKA.out.size
        exact .inr (by rw [← hy]; simpa using hz))
    have HB1 := Lib.hid hblk1
    have c2 := hblk1.cell 2
    simp only [List.getElem?_cons_zero, List.getElem?_cons_succ] at c2
    have f2 := hblk1.frozen 2
    clear HOA HBA HKA HRI c2' kg hg1 ho1 hblk1 hg0 hwh
    go_wp2_with fail
    go_end0
    have hs := (HB1.out.set 2 (.slice vB (L + 1) vd))
    simp only [List.set_cons_succ, List.set_cons_zero] at hs
    have ks := keepsCell w1 g 2 (.slice vB (L + 1) vd)
    refine ⟨rfl, .inr (.inr ⟨rfl, by have := HL.out; omega, (Value.slice vB (L + 1) vd).ownBlock, ⟨⟨_, hs, ?_, rfl⟩, HRI1.out.keeps ks (fun a ha hm => by have := HQ.out.lo a ha; rw [List.mem_singleton.1 hm] at this; omega), HQ.out.lo, HQ.out.len, HQ.out.le, ?_, hmx, HQ.out.sz⟩, ⟨HK1.out.trans (ks.mono (fun y hy => by rw [List.mem_singleton.1 hy]; exact List.mem_cons_self)), HROW.out⟩⟩)⟩
    · rw [List.length_append, List.length_singleton, ← HL.out]
      exact ownsRow_setCell_below HO1.out (a := ⟨g, 2, none⟩) (Nat.lt_succ_self g) _
    · rw [List.length_append, List.length_singleton, ← HL.out]; omega
/-! Rows in memory, all of them below a block. -/
def RBT (w : World) (g top n : Nat) (rs : List (List Int)) : Prop :=
  rs.length = n ∧ g < top ∧ top ≤ w.heap.size ∧ ∃ vs : List Value, vs.length = n ∧ Blk w g 22 vs ∧ ∀ j v, vs[j]? = some v → w.ownsRow (g + 1) 5 1 v (rth rs j).length (ints .u8 (rth rs j)) ∧ ∀ x, v.ownBlock = some x → x < top
theorem RB.top {w : World} {g n : Nat} {rs : List (List Int)} (h : RB w g n rs) : RBT w g w.heap.size n rs := by
  have hl := h.lt
  obtain ⟨h0, vs, h1, h2, h3⟩ := h
  exact ⟨h0, hl, Nat.le_refl _, vs, h1, h2, fun j v hv => ⟨h3 j v hv, own_hi (h3 j v hv)⟩⟩
theorem RBT.rb {w : World} {g top n : Nat} {rs : List (List Int)} (h : RBT w g top n rs) : RB w g n rs := by
  obtain ⟨h0, -, -, vs, h1, h2, h3⟩ := h
  exact ⟨h0, vs, h1, h2, fun j v hv => (h3 j v hv).1⟩
theorem RBT.keeps {w w' : World} {g top n : Nat} {rs : List (List Int)} {S : List Nat} (h : RBT w g top n rs) (hk : Keeps S w w') (hS : ∀ x ∈ S, x < g ∨ top ≤ x) : RBT w' g top n rs := by
  obtain ⟨h0, hg, ht, vs, h1, h2, h3⟩ := h
  refine ⟨h0, hg, Nat.le_trans ht hk.size, vs, h1, h2.keeps hk (fun hm => by rcases hS g hm with h | h <;> omega), fun j v hv => ⟨own_keeps (h3 j v hv).1 hk fun x hx hm => ?_, (h3 j v hv).2⟩⟩
  have a := own_lo (h3 j v hv).1 x hx
  have b := (h3 j v hv).2 x hx
  rcases hS x hm with h | h <;> omega
/-- The row that is laid is none of the rows. -/
def Apart (g2 top : Nat) (ob : Option Nat) : Prop := ∀ x, ob = some x → x < g2 ∨ top ≤ x
theorem RBT.fr {w w' : World} {g g2 top n : Nat} {rs : List (List Int)} {o1 o2 : Option Nat} (h : RBT w g2 top n rs) (hf : FR g o1 o2 w w') (hg : g < g2) (ha : Apart g2 top o1) : RBT w' g2 top n rs ∧ Apart g2 top o2 := by
  have ht := h.2.2.1
  refine ⟨h.keeps hf.keeps (fun x hx => ?_), fun x hx => ?_⟩
  · rcases List.mem_cons.1 hx with e | e
    · exact .inl (by omega)
    · exact ha x (Option.mem_toList.1 e)
  · rcases hf.row x hx with r | r
    · exact ha x r
    · exact .inr (by omega)
/-- What reading a symbol answers. -/
def RSym (w : World) (g : Nat) (B : Option Addr) (M c : Nat) (bs : List Int) (p : Nat) (out : List Int) (most : Nat) (ob : Option Nat) (d : Int × Int × Nat) (wr : Int) (r : Ending) (w' : World) : Prop :=
  r = .returned (.int .i64 d.1) ∧ RD w' g B M c bs (p + d.2.2) out most (endF d.2.1 wr) ob ∧ Keeps [g] w w'
theorem dec_err (l bs : List Int) (p : Nat) (hp : p ≤ 8 * bs.length) : (decF l bs p).2.1 = 0 ∨ decF l bs p = (0, 10, 0) ∨ decF l bs p = (0, 32, 0) := by
  have hs := dec_spec l bs p (longN l 16) 0 (by omega) (by omega) (fun m hm => by
    obtain rfl : m = 0 := by omega
    simp [xv, lowF, lenCnt_zero])
  rw [show decGo l bs p (longN l 16) 0 (xv bs p 0) = decF l bs p from rfl] at hs
  rcases hs with ⟨j, m, hj, _, _, _, _, hend, _, hr⟩ | ⟨k, _, _, _, hr⟩ | ⟨_, _, hr⟩
  · rw [hr]; exact .inl rfl
  · exact .inr (.inl hr)
  · exact .inr (.inr hr)
set_option maxRecDepth 100000 in
set_option maxHeartbeats 1000000 in
theorem rsym_bad (w : World) (g : Nat) (B : Option Addr) (M c : Nat) (bs : List Int) (p : Nat) (out : List Int) (most : Nat) (e : Int) (ob : Option Nat) (v : Value) (wr : Int) (h : RD w g B M c bs p out most e ob) (he : e ≠ 0) :
    Calls Tryd.prog 92 #[.pointer (some ⟨g, 0, none⟩), v, .int .i64 wr] w fun r w' => r = .returned (.int .i64 0) ∧ RD w' g B M c bs p out most e ob ∧ Keeps [] w w' := by
  have H := Lib.hid h
  obtain ⟨-, -, -, c4, -⟩ := h.cells
  clear h
  have e1 : (e != 0) = true := by simpa using he
  clear he
  go_enter Tryd.func92, Tryd.ntmps92
  go_wp2_with fail
  go_ret
  exact ⟨rfl, H.out, Keeps.refl _ _⟩
set_option maxRecDepth 100000 in
set_option maxHeartbeats 1000000 in
theorem rsym_calls (w : World) (g : Nat) (B : Option Addr) (M c : Nat) (bs : List Int) (p : Nat) (out : List Int) (most : Nat) (ob : Option Nat) (g2 top n : Nat) (l : List Int) (wr : Int) (h : RD w g B M c bs p out most 0 ob) (hr : RBT w g2 top n (rowsF l))
    (hc : checkF l = 0) (hn : n ≤ 288) :
    Calls Tryd.prog 92 #[.pointer (some ⟨g, 0, none⟩), .slice (some ⟨g2, 0, none⟩) n n, .int .i64 wr] w (RSym w g B M c bs p out most ob (decF l bs p) wr) := by
  have H := Lib.hid h
  obtain ⟨c0, c1, -, c4, -⟩ := h.cells
  have hle := h.le
  have hM := h.len
  have hsz := h.sz
  have HRB := Lib.hid hr.rb
  have hns := next_same hc bs p (by omega)
  rw [← hM] at hns
  have HNS := Lib.hid hns
  have hrl : ∀ j, (rth (rowsF l) j).length ≤ 15 := fun j => by
    by_cases hj : j < l.length
    · by_cases h0 : 0 < (rth (rowsF l) j).length
      · obtain ⟨m, h1, h15, h2, h3⟩ := row_len (check_ok hc).2 j hj h0
        rw [h3, msbF_len]; exact h15
      · omega
    · have hl2 : (rowsF l).length ≤ j := by rw [show (rowsF l).length = l.length by simp [rowsF]]; omega
      simp [rth, List.getD, List.getElem?_eq_none hl2]
  have HRL := Lib.hid hrl
  have hde := dec_err l bs p (by omega)
  have hbd := dec_bd l bs p (by omega)
  have hcl : ∀ q, Calls Tryd.prog 100 #[.slice (some ⟨g2, 0, none⟩) n n, .slice B M c, .int .i64 p] (w.drewN q) fun e w' => e = .returned (.tuple #[.int .i64 (decF l bs p).1, .int .i64 ((decF l bs p).2.2 : Nat), .int .i64 (decF l bs p).2.1]) ∧ ∃ m, w' = (w.drewN q).drewN m := fun q => by
    have hh := refNext_calls (w.drewN q) g2 n (rowsF l) B M c (bitsP bs M) p (HRB.out.keeps ((Keeps.refl [] w).drewN q) (by simp)) (H.out.ri.keeps ((Keeps.refl [] w).drewN q) (off_nil _)) hle hsz hn HRL.out
    rw [HNS.out] at hh
    exact hh
  have HCL := Lib.hid hcl
  have HM := Lib.hid hM
  have HPM := Lib.hid (show ∀ k, p + k ≤ 8 * bs.length → p + k ≤ M from fun k h => by omega)
  clear h hr hns hrl hcl HNS HRL HRB hM
  generalize decF l bs p = d at *
  obtain ⟨sy, er, k⟩ := d
  simp only [] at hde hbd HCL
  go_enter Tryd.func92, Tryd.ntmps92
  go_upto_region 3 with (fail)
  go_quiet (first | (go_at_call 100; exact Calls.quiet_of (HCL.out _)))
  obtain ⟨w1, hw1⟩ : ∃ w1 : World, w1 = w.drewN nq := ⟨_, rfl⟩
  have hk1 : Keeps [] w w1 := by rw [hw1]; exact (Keeps.refl [] w).drewN _
  rw [← hw1]
  clear hw1 c0 c1 c4 HCL
  have H1 := Lib.hid (H.out.keeps hk1)
  have HK1 := Lib.hid hk1
  obtain ⟨-, c1, -, c4, -⟩ := H1.out.cells
  have f1 := H1.out.free 1
  have f4 := H1.out.free 4
  clear hk1 H
  rcases hde with rfl | hd | hd
  · obtain ⟨-, j, rfl, hj, hpk⟩ | ⟨h0, -⟩ := hbd
    · have HPK : Hid (p + k ≤ M) := Lib.hid (HPM.out k hpk)
      have hpk2 := HPK.out
      have e6 : IntKind.i64.wrap ((p : Int) + k) = (p : Int) + k := IntWalk.i64_in _ (by omega)
      clear hpk
      go_wp2_with fail
      go_ret
      have hpl := H1.out.place HPK.out
      rw [show ((p + k : Nat) : Int) = (p : Int) + k by omega] at hpl
      exact ⟨rfl, hpl, (HK1.out.mono (by simp)).trans (keepsCell _ g 1 _)⟩
    · exact absurd rfl h0
  · injection hd with q1 q2
    injection q2 with q2 q3
    subst q1; subst q2; subst q3
    have HW := Lib.hid (H1.out.wrong 55)
    obtain ⟨-, d1, -, -, -⟩ := HW.out.cells
    have g1 := HW.out.free 1
    clear hbd
    go_wp2_with fail
    go_ret
    have hpl := HW.out.place (q := p + 0) (by omega)
    refine ⟨rfl, ?_, ((HK1.out.mono (by simp)).trans (keepsCell _ g 4 _)).trans (keepsCell _ g 1 _)⟩
    rw [show ((p + 0 : Nat) : Int) = (p : Int) by omega] at hpl
    exact hpl
  · injection hd with q1 q2
    injection q2 with q2 q3
    subst q1; subst q2; subst q3
    have HW := Lib.hid (H1.out.wrong wr)
    obtain ⟨-, d1, -, -, -⟩ := HW.out.cells
    have g1 := HW.out.free 1
    clear hbd
    go_wp2_with fail
    go_ret
    have hpl := HW.out.place (q := p + 0) (by omega)
    refine ⟨rfl, ?_, ((HK1.out.mono (by simp)).trans (keepsCell _ g 4 _)).trans (keepsCell _ g 1 _)⟩
    rw [show ((p + 0 : Nat) : Int) = (p : Int) by omega] at hpl
    exact hpl
end Go.Proofs.YtkpabdjniiepkaaDoor

set_option linter.unusedVariables false
set_option linter.unusedSimpArgs false
namespace Go.Proofs.YtkpabdjniiepkaaDoor
open Go.RowKit
def saidV : Option (Int × Nat) → Value
  | some (v, k) => .tuple #[.int .i64 v, .int .i64 k, .bool true]
  | none => .tuple #[.int .i64 0, .int .i64 0, .bool false]
theorem saidV_none {r : Option (Int × Nat)} (h : r = none) : Ending.returned (.tuple #[.int .i64 0, .int .i64 0, .bool false]) = .returned (saidV r) := by rw [h]; rfl
theorem saidV_some {r : Option (Int × Nat)} {v ki : Int} {k : Nat} (h : r = some (v, k)) (hk : ki = k) : Ending.returned (.tuple #[.int .i64 v, .int .i64 ki, .bool true]) = .returned (saidV r) := by rw [h, hk]; rfl
end Go.Proofs.YtkpabdjniiepkaaDoor

set_option linter.unusedVariables false
set_option linter.unusedSimpArgs false
namespace Go.Proofs.YtkpabdjniiepkaaDoor
open Go.RowKit
/-- 's = append(s, ys...)' of numbers, on a row of one's own. -/
theorem app_ints {ops : Array Oper} {rest : List Oper} {o : Oper} {a : Act} {Q : Exit → Act → World → Prop} {w : World} (hgd : o.guard = none) (s x : Operand)
    (ho : o.op = .call { callee := .builtin .append, args := #[s, x], argTypes := #[51, 51] })
    (base : Nat) (v : Value) (n : Nat) (xs : List Int) (hs : a.eval s = v) (hown : w.ownsRow base 3 1 v n (ints .i64 xs))
    (g m c : Nat) (ys : List Int) (hx : a.eval x = .slice (some ⟨g, 0, none⟩) m c) (hy : RI .i64 w (some ⟨g, 0, none⟩) m ys)
    (hn : n + m ≤ 1000000) (hbase : base ≤ w.heap.size)
    (h : ∀ v' w', w'.ownsRow base 3 1 v' (n + m) (ints .i64 (xs ++ ys)) → w.grownBy w' v.ownBlock → wpList Tryd.prog ops Q rest (a.put o.dst v') w') : wpList Tryd.prog ops Q (o :: rest) a w := by
  obtain ⟨i0, hi, hz0, hz1, hz2⟩ := info_parts info_int
  refine wpList_append_own _ hgd s x 51 ho base 3 i0 (.int .i64 0) 1 8 Tryd.underlying51 hi hz0 hz1 hz2 rfl (by decide) v n (ints .i64 xs) hs hown ⟨g, 0, none⟩ m c (ints .i64 ys) hx (by simp [ints, hy.len]) ?_ (ints_one _ _) (by unfold maxLen; omega) (by omega) hbase ?_
  · intro j u hu
    have hj : j < m := by have := (List.getElem?_eq_some_iff.1 hu).1; have := hy.len; simp [ints] at *; omega
    rw [add_plain]
    have hc := hy.cell g 0 rfl j hj
    rw [Nat.zero_add] at hc
    rw [hc, ← hu, ints_getElem?]
    simp [nth, List.getD, show j < ys.length by have := hy.len; omega]
  · intro v' w' h2 h3 _
    have e : ints .i64 (xs ++ ys) = ints .i64 xs ++ ints .i64 ys := by simp [ints]
    rw [e] at h
    exact h v' w' h2 h3
/-- What adding a step answers. -/
def Added (w : World) (base : Nat) (r : Option (List Int)) (e : Ending) (w' : World) : Prop :=
  match r with
  | some l => ∃ v, e = .returned (.tuple #[v, .bool true]) ∧ w'.ownsRow base 3 1 v l.length (ints .i64 l) ∧ Below base w w'
  | none => e = .returned (.tuple #[.slice none 0 0, .bool false]) ∧ Below base w w'
/-- Of literal lengths: no more is said. -/
theorem wide0 (s : Nat) (h : s ≤ 15) : nth wideL s = 0 := by
  rcases (by omega : s = 0 ∨ s = 1 ∨ s = 2 ∨ s = 3 ∨ s = 4 ∨ s = 5 ∨ s = 6 ∨ s = 7 ∨ s = 8 ∨ s = 9 ∨ s = 10 ∨ s = 11 ∨ s = 12 ∨ s = 13 ∨ s = 14 ∨ s = 15) with rfl | rfl | rfl | rfl | rfl | rfl | rfl | rfl | rfl | rfl | rfl | rfl | rfl | rfl | rfl | rfl <;> rfl
end Go.Proofs.YtkpabdjniiepkaaDoor

set_option linter.unusedVariables false
set_option linter.unusedSimpArgs false
namespace Go.Proofs.YtkpabdjniiepkaaDoor
open Go.RowKit
/-- 's = append(s, ys...)' of numbers, whatever slice the source is. -/
theorem app_any {ops : Array Oper} {rest : List Oper} {o : Oper} {a : Act} {Q : Exit → Act → World → Prop} {w : World} (hgd : o.guard = none) (s x : Operand)
    (ho : o.op = .call { callee := .builtin .append, args := #[s, x], argTypes := #[51, 51] })
    (base : Nat) (v : Value) (n : Nat) (xs : List Int) (hs : a.eval s = v) (hown : w.ownsRow base 3 1 v n (ints .i64 xs))
    (A : Option Addr) (m c : Nat) (ys : List Int) (hx : a.eval x = .slice A m c) (hy : RI .i64 w A m ys) (hnil : A = none → m = 0 ∧ c = 0) (hpl : ∀ ad, A = some ad → ∃ b o, ad = ⟨b, o, none⟩)
    (hn : n + m ≤ 1000000) (hbase : base ≤ w.heap.size)
    (h : ∀ v' w', w'.ownsRow base 3 1 v' (n + m) (ints .i64 (xs ++ ys)) → w.grownBy w' v.ownBlock → wpList Tryd.prog ops Q rest (a.put o.dst v') w') : wpList Tryd.prog ops Q (o :: rest) a w := by
  obtain ⟨i0, hi, hz0, hz1, hz2⟩ := info_parts info_int
  cases A with
  | none =>
    obtain ⟨rfl, rfl⟩ := hnil rfl
    obtain rfl : ys = [] := List.eq_nil_of_length_eq_zero hy.len
    refine wpList_append_own_none hgd s x 51 ho base 3 i0 1 Tryd.underlying51 hi v n (ints .i64 xs) hs hown hx ?_
    exact h v w (by simpa using hown) ⟨rfl, rfl, rfl, Nat.le_refl _, fun _ _ _ => rfl⟩
  | some ad =>
    obtain ⟨b, of, rfl⟩ := hpl ad rfl
    refine wpList_append_own _ hgd s x 51 ho base 3 i0 (.int .i64 0) 1 8 Tryd.underlying51 hi hz0 hz1 hz2 rfl (by decide) v n (ints .i64 xs) hs hown ⟨b, of, none⟩ m c (ints .i64 ys) hx (by simp [ints, hy.len]) ?_ (ints_one _ _) (by unfold maxLen; omega) (by omega) hbase ?_
    · intro j u hu
      have hj : j < m := by have := (List.getElem?_eq_some_iff.1 hu).1; have := hy.len; simp [ints] at *; omega
      rw [add_plain2]
      have hc := hy.cell b of rfl j hj
      rw [hc, ← hu, ints_getElem?]
      simp [nth, List.getD, show j < ys.length by have := hy.len; omega]
    · intro v' w' h2 h3 _
      have e : ints .i64 (xs ++ ys) = ints .i64 xs ++ ints .i64 ys := by simp [ints]
      rw [e] at h
      exact h v' w' h2 h3
/-- What adding a step answers by the document. -/
def WithV (w : World) (r : Option (List Int)) (e : Ending) (w' : World) : Prop :=
  match r with
  | some l => ∃ v, e = .returned (.tuple #[v, .int .i64 0]) ∧ w'.ownsRow w.heap.size 3 1 v l.length (ints .i64 l) ∧ Below w.heap.size w w'
  | none => e = .returned (.tuple #[.slice none 0 0, .int .i64 41]) ∧ Below w.heap.size w w'
theorem new_ri (w : World) (t : TypeId) (v : Int) : RI .i64 (w.alloc (.cells #[.int .i64 v] t)) (some ⟨w.heap.size, 0, none⟩) 1 [v] := by
  have h : Blk (w.alloc (.cells (ints .i64 [v]).toArray t (0, 0))) w.heap.size t (ints .i64 ([v] ++ [])) := blk_new w t _
  exact h.ri
end Go.Proofs.YtkpabdjniiepkaaDoor

set_option linter.unusedVariables false
set_option linter.unusedSimpArgs false
namespace Go.Proofs.YtkpabdjniiepkaaDoor
open Go.RowKit
theorem any_iff (l : List Int) : anyUsed l = true ↔ ∃ j, j < l.length ∧ 0 < nth l j := by
  unfold anyUsed
  rw [List.any_eq_true]
  constructor
  · rintro ⟨x, hx, h⟩
    obtain ⟨j, hj, rfl⟩ := List.getElem_of_mem hx
    exact ⟨j, hj, by rw [nth_lt hj]; simpa using h⟩
  · rintro ⟨j, hj, h⟩
    exact ⟨l[j], List.getElem_mem _, by rw [nth_lt hj] at h; simpa using h⟩
/-- The greatest of some numbers: is it above 0? -/
def MaxP (w : World) (l : List Int) (e : Ending) (w' : World) : Prop := ∃ m : Int, e = .returned (.int .i64 m) ∧ decide (0 < m) = anyUsed l ∧ Dr w w'
theorem max_done {w w' : World} {l : List Int} {m : Int} (h : 0 < m ↔ ∃ j, j < l.length ∧ 0 < nth l j) (hd : Dr w w') : MaxP w l (.returned (.int .i64 m)) w' := by
  refine ⟨m, rfl, ?_, hd⟩
  rw [Bool.eq_iff_iff, any_iff, decide_eq_true_iff]
  exact h
/-! The lists of kind 1. -/
def fixGo (k : Nat) : Int := if k < 144 ∨ 279 < k then 8 else if k < 256 then 9 else 7
def fixL (n : Nat) : List Int := (List.range n).map fixGo
theorem fixL_succ (n : Nat) : fixL (n + 1) = fixL n ++ [fixGo n] := by unfold fixL; rw [List.range_succ]; simp
theorem fixL_len (n : Nat) : (fixL n).length = n := by simp [fixL]
theorem fixL_all : fixL 288 = fixLit := by decide +kernel
theorem fix_info : checkF fixLit = 0 ∧ checkF fixDist = 0 ∧ anyUsed fixDist = true ∧ fixLit.length = 288 ∧ fixDist.length = 32 := by decide +kernel
end Go.Proofs.YtkpabdjniiepkaaDoor

set_option linter.unusedVariables false
set_option linter.unusedSimpArgs false
namespace Go.Proofs.YtkpabdjniiepkaaDoor
open Go.RowKit
theorem alignF_bd (p : Nat) : p ≤ alignF p ∧ alignF p < p + 8 ∧ alignF p % 8 = 0 := by unfold alignF; omega
set_option maxRecDepth 100000 in
set_option maxHeartbeats 2000000 in
theorem rstored_calls (w : World) (g : Nat) (B : Option Addr) (M c : Nat) (bs : List Int) (p : Nat) (out : List Int) (most : Nat) (ob : Option Nat) (h : RD w g B M c bs p out most 0 ob) :
    Calls Tryd.prog 69 #[.pointer (some ⟨g, 0, none⟩)] w (RPart w g B M c bs most ob (storedF bs most out p)) := by
  have H := Lib.hid h
  have HML := Lib.hid h.len
  have hple := h.le
  have hsz := h.sz
  obtain ⟨a1, a2, a3⟩ := alignF_bd p
  have haM : alignF p ≤ M := by have := h.len; unfold alignF; omega
  obtain ⟨a, ha⟩ : ∃ a, a = alignF p := ⟨_, rfl⟩
  have HA := Lib.hid ha
  rw [← ha] at a1 a2 a3 haM
  clear h ha
  go_enter Tryd.func69, Tryd.ntmps69
  go_wp2_with fail
  go_loopg [9] (a - p) (fun k v9 wr => ∃ q : Nat, q + k = a ∧ p ≤ q ∧ Hid (RD wr g B M c bs q out most 0 ob) ∧ Hid (FR g ob ob w wr))
  case atStart => exact ⟨p, by omega, by omega, H, Lib.hid (FR.refl _ _ _)⟩
  case round =>
    clear H
    obtain ⟨q, hq, hpq, H, K⟩ := hrel
    obtain ⟨-, c1, -, c4, -⟩ := H.out.cells
    have f1 := H.out.free 1
    by_cases h8 : q % 8 = 0
    · obtain rfl : q = a := by omega
      have e1 : ((q : Int) % 8 != 0) = false := by simp; omega
      go_wp2_with fail
      clear c1 c4 f1 e1
      refine (rtake_calls wr g B M c bs q out most 0 ob 16 16 rfl H.out (by omega)).mono ?_
      rintro _ w1 ⟨n, q1, e1, rfl, h1, k1, n0, n1, hq1, hc1⟩
      have H1 := Lib.hid h1
      have K1 := Lib.hid (K.out.trans (FR.of_keeps k1))
      rw [show (2 : Int) ^ 16 = 65536 from rfl] at n1
      clear h1 k1 H K
      go_wp2_with fail
      refine (rtake_calls w1 g B M c bs q1 out most e1 ob 16 16 rfl H1.out (by omega)).mono ?_
      rintro _ w2 ⟨m, q2, e2, rfl, h2, k2, m0, m1, hq2, hc2⟩
      have H2 := Lib.hid h2
      have K2 := Lib.hid (K1.out.trans (FR.of_keeps k2))
      rw [show (2 : Int) ^ 16 = 65536 from rfl] at m1
      clear h2 k2 H1 K1
      obtain ⟨N, rfl⟩ := Int.eq_ofNat_of_zero_le n0
      have HCC : Hid ((e2 = 0 ∧ q2 = q + 32 ∧ q + 32 ≤ M ∧ (N : Int) = numB bs q 16 ∧ m = numB bs (q + 16) 16) ∨ (e2 = 55 ∧ storedF bs most out p = (out, 0, 55))) := Lib.hid (by
        have hM := HML.out
        rcases hc1 with ⟨_, x1, rfl, x2, rfl⟩ | ⟨_, x1, rfl, x2, rfl⟩ | ⟨x1, _⟩
        · rcases hc2 with ⟨_, y1, rfl, y2, rfl⟩ | ⟨_, y1, rfl, y2, rfl⟩ | ⟨y1, _⟩
          · exact .inl ⟨rfl, by omega, by omega, x2, y2⟩
          · refine .inr ⟨rfl, ?_⟩
            unfold storedF; rw [← HA.out, if_neg (by omega), if_pos (by omega)]
          · exact absurd rfl y1
        · rcases hc2 with ⟨y1, _⟩ | ⟨y1, _⟩ | ⟨_, rfl, _, rfl⟩
          · exact absurd y1 (by decide)
          · exact absurd y1 (by decide)
          · refine .inr ⟨rfl, ?_⟩
            unfold storedF; rw [← HA.out, if_pos (by omega)]
        · exact absurd rfl x1)
      clear hc1 hc2
      obtain ⟨-, -, -, c4, -⟩ := H2.out.cells
      have f4 := H2.out.free 4
      rcases HCC.out with ⟨rfl, rfl, hq32, hn, hm⟩ | ⟨rfl, hr⟩
      rotate_left
      · have HR := Lib.hid hr
        clear hr HCC hq1 hq2
        go_wp2_with fail
        clear c4 f4
        go_loopg [4] 1 (fun k iv wr => iv = .int .i64 0 ∧ 0 < k ∧ Hid (RD wr g B M c bs q2 out most 55 ob) ∧ Hid (FR g ob ob w wr))
        case atStart => exact ⟨rfl, by omega, H2, K2⟩
        case round =>
          obtain ⟨rfl, hk, HE, KE⟩ := hrel
          obtain ⟨-, -, -, c4, -⟩ := HE.out.cells
          by_cases hN : 0 < N
          · have e1 : decide ((0 : Int) < (N : Int)) = true := by simp; omega
            go_wp2_with fail
            go_end0
            exact rpart_err HR.out (by decide) HE.out KE.out
          · have e1 : decide ((0 : Int) < (N : Int)) = false := by simp; omega
            go_wp2_with fail
            go_end0
            exact rpart_err HR.out (by decide) HE.out KE.out
      have HS1 : Hid (storedF bs most out p = if (N : Int) + m ≠ 65535 then (out, 0, 51) else storF bs most N out (q + 32)) := Lib.hid (by
        have hM := HML.out
        unfold storedF
        rw [← HA.out, if_neg (by omega), if_neg (by omega), ← hn, ← hm, Int.toNat_natCast])
      clear HCC hn hm hq1 hq2
      generalize q + 32 = q2 at *
      by_cases hs : (N : Int) + m = 65535
      · have HR := Lib.hid (HS1.out.trans (if_neg (by simpa using hs)))
        have e1 : ((N : Int) + m != 65535) = false := by simpa using hs
        clear HS1
        go_wp2_with fail
        clear c4 f4 e1
        go_loopw [4] (fun iv wr => ∃ (i qq : Nat) (o : List Int) (e : Int) (ob' : Option Nat), i ≤ N ∧ iv = .int .i64 i ∧ Hid ((e = 0 ∧ storedF bs most out p = storF bs most (N - i) o qq) ∨ (e ≠ 0 ∧ storedF bs most out p = (o, 0, e))) ∧
          Hid (RD wr g B M c bs qq o most e ob') ∧ Hid (FR g ob ob' w wr)) (fun iv _ => N - (intOf iv).toNat)
        case atStart => exact ⟨0, q2, out, 0, ob, by omega, rfl, Lib.hid (.inl ⟨rfl, HR.out⟩), H2, K2⟩
        case round =>
          clear H2 K2 HR
          obtain ⟨i, qq, o, e, ob', hi, rfl, HS, H, K⟩ := hrel
          obtain ⟨-, -, -, c4, -⟩ := H.out.cells
          rcases HS.out with ⟨rfl, hsf⟩ | ⟨hne, hsf⟩
          · by_cases hlt : i < N
            · have e0 : decide (i < N) = true := by simpa using hlt
              have e0' : decide ((i : Int) < (N : Int)) = true := by simp; omega
              have HS' : Hid (storedF bs most out p = if 8 * bs.length < qq + 8 then (o, 0, 55) else if most ≤ o.length then (o, 0, 56) else storF bs most (N - (i + 1)) (o ++ [numB bs qq 8]) (qq + 8)) := Lib.hid (by rw [hsf, show N - i = (N - (i + 1)) + 1 by omega, storF])
              clear hsf HS
              go_wp2_with fail
              clear c4
              refine (rtake_calls wr g B M c bs qq o most 0 ob' 8 8 rfl H.out (by omega)).mono ?_
              rintro _ w3 ⟨x, q3, e3, rfl, h3, k3, x0, x1, hq3, hc3⟩
              rw [show (2 : Int) ^ 8 = 256 from rfl] at x1
              have H3 := Lib.hid h3
              have K3 := Lib.hid (K.out.trans (FR.of_keeps k3))
              have s1 : IntKind.u8.wrap x = x := by rw [IntKind.wrap_u8]; omega
              have HC3 := Lib.hid hc3
              clear h3 k3 H K hc3
              go_wp2_with fail
              refine (rlay_calls w3 g B M c bs q3 o most e3 ob' x H3.out).mono ?_
              rintro _ w4 ⟨rfl, hl4⟩
              have HREL : Hid (∃ (qq' : Nat) (o' : List Int) (e' : Int) (ob2 : Option Nat), ((e' = 0 ∧ storedF bs most out p = storF bs most (N - (i + 1)) o' qq') ∨ (e' ≠ 0 ∧ storedF bs most out p = (o', 0, e'))) ∧ RD w4 g B M c bs qq' o' most e' ob2 ∧ FR g ob ob2 w w4) := Lib.hid (by
                have hM := HML.out
                have hs := HS'.out
                rcases HC3.out with ⟨-, y1, rfl, y2, rfl⟩ | ⟨-, y1, rfl, y2, rfl⟩ | ⟨y1, _⟩
                · rw [if_neg (by omega)] at hs
                  rcases hl4 with ⟨z1, _⟩ | ⟨-, z2, z3, z4⟩ | ⟨-, z2, ob2, z3, z4⟩
                  · exact absurd rfl z1
                  · rw [if_pos z2] at hs
                    exact ⟨qq + 8, o, 56, ob', .inr ⟨by decide, hs⟩, z3, K3.out.trans z4⟩
                  · rw [if_neg (by omega), ← y2] at hs
                    exact ⟨qq + 8, _, 0, ob2, .inl ⟨rfl, hs⟩, z3, K3.out.trans z4⟩
                · rw [if_pos (by omega)] at hs
                  rcases hl4 with ⟨-, z3, z4⟩ | ⟨z1, _⟩ | ⟨z1, _⟩
                  · exact ⟨_, o, 55, ob', .inr ⟨by decide, hs⟩, z3, K3.out.trans z4⟩
                  · exact absurd z1 (by decide)
                  · exact absurd z1 (by decide)
                · exact absurd rfl y1)
              obtain ⟨qq', o', e', ob2, hr1, hr2, hr3⟩ := HREL.out
              have HR1 := Lib.hid hr1
              have HR2 := Lib.hid hr2
              have HR3 := Lib.hid hr3
              clear HREL hr1 hr2 hr3 hl4 H3 K3 HS' HC3
              go_wp2_with fail
              go_roundw
              case rel => exact ⟨i + 1, qq', o', e', ob2, by omega, by go_num, HR1, HR2, HR3⟩
              case measure => simp [intOf]; omega
            · obtain rfl : i = N := by omega
              have e0 : decide (i < i) = false := by simp
              have e0' : decide ((i : Int) < (i : Int)) = false := by simp
              have HE : Hid (storedF bs most out p = (o, qq, 0)) := Lib.hid (by rw [hsf, Nat.sub_self, storF])
              clear hsf HS
              go_wp2_with fail
              go_end0
              exact rpart_ok HE.out H.out K.out
          · have e2 : (e == 0) = false := by simpa using hne
            have HE := Lib.hid hsf
            have HNE := Lib.hid hne
            clear hsf HS hne
            by_cases hlt : i < N
            · have e0 : decide (i < N) = true := by simpa using hlt
              have e0' : decide ((i : Int) < (N : Int)) = true := by simp; omega
              go_wp2_with fail
              go_end0
              exact rpart_err HE.out HNE.out H.out K.out
            · have e0 : decide (i < N) = false := by simpa using hlt
              have e0' : decide ((i : Int) < (N : Int)) = false := by simp; omega
              go_wp2_with fail
              go_end0
              exact rpart_err HE.out HNE.out H.out K.out
      · have HR := Lib.hid (HS1.out.trans (if_pos hs))
        have e1 : ((N : Int) + m != 65535) = true := by simpa using hs
        have HX := Lib.hid (H2.out.wrong 51)
        have KX := Lib.hid (K2.out.trans (FR.of_keeps (keepsCell w2 g 4 (.int .i64 51))))
        clear HS1
        go_wp2_with fail
        clear c4 f4 e1
        go_loopg [4] 1 (fun k iv wr => iv = .int .i64 0 ∧ 0 < k ∧ Hid (RD wr g B M c bs q2 out most 51 ob) ∧ Hid (FR g ob ob w wr))
        case atStart => exact ⟨rfl, by omega, HX, KX⟩
        case round =>
          obtain ⟨rfl, hk, HE, KE⟩ := hrel
          obtain ⟨-, -, -, c4, -⟩ := HE.out.cells
          by_cases hN : 0 < N
          · have e1 : decide ((0 : Int) < (N : Int)) = true := by simp; omega
            go_wp2_with fail
            go_end0
            exact rpart_err HR.out (by decide) HE.out KE.out
          · have e1 : decide ((0 : Int) < (N : Int)) = false := by simp; omega
            go_wp2_with fail
            go_end0
            exact rpart_err HR.out (by decide) HE.out KE.out
    · have e1 : ((q : Int) % 8 != 0) = true := by simp; omega
      have e6 : IntKind.i64.wrap ((q : Int) + 1) = (q : Int) + 1 := IntWalk.i64_in _ (by omega)
      obtain ⟨f, rfl⟩ : ∃ f, gk = f + 1 := ⟨gk - 1, by omega⟩
      go_wp2_with fail
      go_roundg f
      case measure => omega
      case rel =>
        have hp := H.out.place (q := q + 1) (by omega)
        rw [show ((q + 1 : Nat) : Int) = (q : Int) + 1 by omega] at hp
        exact ⟨q + 1, by omega, by omega, Lib.hid hp, Lib.hid (K.out.trans (FR.of_keeps (keepsCell _ g 1 _)))⟩
end Go.Proofs.YtkpabdjniiepkaaDoor

set_option linter.unusedVariables false
set_option linter.unusedSimpArgs false
namespace Go.Proofs.YtkpabdjniiepkaaDoor
open Go.RowKit
set_option maxRecDepth 100000 in
set_option maxHeartbeats 400000 in
theorem rtimes_calls (w : World) (base n : Nat) (v : Value) (xs : List Int) (m x : Int) (hown : w.ownsRow base 3 1 v n (ints .i64 xs)) (hb : base ≤ w.heap.size) (hn : n ≤ 100000) (hm : m ≤ 100000) :
    Calls Tryd.prog 91 #[v, .int .i64 m, .int .i64 x] w fun e w' => ∃ v', e = .returned v' ∧ w'.ownsRow base 3 1 v' (n + m.toNat) (ints .i64 (xs ++ List.replicate m.toNat x)) ∧ Below base w w' := by
  have HO := Lib.hid hown
  clear hown
  go_enter Tryd.func91, Tryd.ntmps91
  go_wp2_with fail
  go_loopw [0, 7] (fun u i wr => ∃ k : Nat, k ≤ m.toNat ∧ i = .int .i64 k ∧ Hid (wr.ownsRow base 3 1 u (n + k) (ints .i64 (xs ++ List.replicate k x))) ∧ Hid (Below base w wr)) (fun _ i _ => m.toNat - (intOf i).toNat)
  case atStart => exact ⟨0, by omega, rfl, Lib.hid (by simpa using HO.out), Below.refl _ _⟩
  case round =>
    clear HO
    obtain ⟨k, hk, rfl, HO, HW⟩ := hrel
    have hsz := HW.out.size
    by_cases hlt : (k : Int) < m
    · have HRI : Hid (RI .i64 (wr.alloc (.cells #[.int .i64 x] 3)) (some ⟨wr.heap.size, 0, none⟩) 1 [x]) := Lib.hid (ri_one _ _ _ _)
      go_wp2_with (at_builtin; refine app_intsG rfl (.tmp 13) (.tmp 15) rfl base _ (n + k) (xs ++ List.replicate k x) rfl (HO.out.alloc _) (some ⟨wr.heap.size, 0, none⟩) 1 1 [x] rfl (by exact HRI.out) ?c1 ?c2 (by omega) ?c3 ?_)
      case c1 => simp
      case c2 => intro ad h; exact ⟨_, _, (Option.some.inj h).symm⟩
      case c3 => simp; omega
      intro v' w1 h1 hg
      have HO1 := Lib.hid h1
      have HB1 := Lib.hid ((HW.out.alloc (by omega) _).grown hg (by simp; omega) (fun k hk => (HO.out.lt k hk).1))
      clear HO HW h1 hg HRI
      go_wp2_with fail
      go_roundw
      case rel => exact ⟨k + 1, by omega, by go_num, Lib.hid (by rw [List.replicate_succ']; exact HO1.out), HB1⟩
      case measure => simp [intOf]; omega
    · go_wp2_with fail
      go_ret
      obtain rfl : k = m.toNat := by omega
      exact ⟨_, rfl, HO.out, HW.out⟩
set_option maxRecDepth 100000 in
set_option maxHeartbeats 400000 in
theorem rfixed_calls (w : World) : Calls Tryd.prog 70 #[] w fun e w' => ∃ v1 v2, e = .returned (.tuple #[v1, v2]) ∧ w'.ownsRow w.heap.size 3 1 v1 288 (ints .i64 fixLit) ∧ w'.ownsRow w.heap.size 3 1 v2 32 (ints .i64 fixDist) ∧ Below w.heap.size w w' := by
  go_enter Tryd.func70, Tryd.ntmps70
  go_wp2_with fail
  refine (rtimes_calls w w.heap.size 0 _ [] 144 8 (World.ownsRow_nil _ _ _ _) (Nat.le_refl _) (by omega) (by omega)).mono ?_
  rintro _ w1 ⟨v1, rfl, ho1, hb1⟩
  have HO1 := Lib.hid ho1
  have HB1 := Lib.hid hb1
  clear ho1 hb1
  go_wp2_with fail
  refine (rtimes_calls w1 w.heap.size _ _ _ 112 9 HO1.out HB1.out.size (by decide) (by omega)).mono ?_
  rintro _ w2 ⟨v2, rfl, ho2, hb2⟩
  have HO2 := Lib.hid ho2
  have HB2 := Lib.hid (HB1.out.trans hb2)
  clear ho2 hb2
  go_wp2_with fail
  refine (rtimes_calls w2 w.heap.size _ _ _ 24 7 HO2.out HB2.out.size (by decide) (by omega)).mono ?_
  rintro _ w3 ⟨v3, rfl, ho3, hb3⟩
  have HO3 := Lib.hid ho3
  have HB3 := Lib.hid (HB2.out.trans hb3)
  clear ho3 hb3
  go_wp2_with fail
  refine (rtimes_calls w3 w.heap.size _ _ _ 8 8 HO3.out HB3.out.size (by decide) (by omega)).mono ?_
  rintro _ w4 ⟨v4, rfl, ho4, hb4⟩
  have HO4 : Hid (w4.ownsRow w.heap.size 3 1 v4 288 (ints .i64 fixLit)) := Lib.hid ho4
  have HB4 := Lib.hid (HB3.out.trans hb4)
  clear ho4 hb4
  go_wp2_with fail
  refine (rtimes_calls w4 w4.heap.size 0 _ [] 32 5 (World.ownsRow_nil _ _ _ _) (Nat.le_refl _) (by omega) (by omega)).mono ?_
  rintro _ w5 ⟨v5, rfl, ho5, hb5⟩
  have HO5 : Hid (w5.ownsRow w4.heap.size 3 1 v5 32 (ints .i64 fixDist)) := Lib.hid ho5
  have HO45 := Lib.hid (own_keeps HO4.out (Keeps.of_below hb5 (S := [])) (by simp))
  have HB5 := Lib.hid (HB4.out.trans (hb5.mono HB4.out.size))
  have HZ := Lib.hid HB4.out.size
  clear ho5 hb5
  go_wp2_with fail
  go_ret2
  exact ⟨_, _, rfl, HO45.out, HO5.out.mono HZ.out, HB5.out⟩
/-- It is refused, if so. -/
def badE (e : Int) (is : Bool) : Int := if e = 0 ∧ is = true then 52 else e
theorem rbad_calls (w : World) (g : Nat) (B : Option Addr) (M c : Nat) (bs : List Int) (p : Nat) (out : List Int) (most : Nat) (e : Int) (ob : Option Nat) (is : Bool) (h : RD w g B M c bs p out most e ob) :
    Calls Tryd.prog 94 #[.pointer (some ⟨g, 0, none⟩), .bool is] w fun r w' => r = .returned (.tuple #[]) ∧ RD w' g B M c bs p out most (badE e is) ob ∧ Keeps [g] w w' := by
  have H := Lib.hid h
  obtain ⟨-, -, -, c4, -⟩ := h.cells
  have f4 := h.free 4
  clear h
  by_cases he : e = 0
  · subst he
    cases is with
    | true =>
      have HE : Hid (badE 0 true = 52) := Lib.hid rfl
      rw [HE.out]
      go_enter Tryd.func94, Tryd.ntmps94
      go_wp2_with fail
      go_end0
      exact ⟨rfl, H.out.wrong 52, keepsCell _ g 4 _⟩
    | false =>
      have HE : Hid (badE 0 false = 0) := Lib.hid rfl
      rw [HE.out]
      go_enter Tryd.func94, Tryd.ntmps94
      go_wp2_with fail
      go_end0
      exact ⟨rfl, H.out, Keeps.refl _ _⟩
  · have e1 : (e == 0) = false := by simpa using he
    rw [show badE e is = e from if_neg (fun h => he h.1)]
    clear he
    go_enter Tryd.func94, Tryd.ntmps94
    go_wp2_with fail
    go_end0
    exact ⟨rfl, H.out, Keeps.refl _ _⟩
theorem any_false_of {l : List Int} (h : ∀ j, j < l.length → ¬ 0 < nth l j) : anyUsed l = false := by
  rw [Bool.eq_false_iff]
  intro ht
  obtain ⟨j, hj, h2⟩ := (any_iff l).1 ht
  exact h j hj h2
set_option maxRecDepth 100000 in
set_option maxHeartbeats 400000 in
theorem rused_calls (w : World) (A : Option Addr) (n c : Nat) (l : List Int) (hl : RI .i64 w A n l) (hn : n ≤ 140737488355328) :
    Calls Tryd.prog 96 #[.slice A n c] w fun e w' => e = .returned (.bool (anyUsed l)) ∧ Dr w w' := by
  have HL := Lib.hid hl
  have HLL := Lib.hid hl.len
  clear hl
  go_enter Tryd.func96, Tryd.ntmps96
  go_wp2_with fail
  go_loopw [3] (fun iv wr => ∃ k : Nat, k ≤ n ∧ iv = .int .i64 k ∧ Hid (∀ j, j < k → ¬ 0 < nth l j) ∧ Hid (Dr w wr)) (fun iv _ => n - (intOf iv).toNat)
  case atStart => exact ⟨0, by omega, rfl, Lib.hid (fun j hj => by omega), Lib.hid (Dr.refl w)⟩
  case round =>
    obtain ⟨k, hk, rfl, HM, HD⟩ := hrel
    by_cases hlt : k < n
    · obtain ⟨b, o, rfl, hc⟩ := HL.out.at hlt
      have hc := (HD.out.keeps (S := [])).cell (by simp) hc
      have e1 : decide (k < n) = true := by simpa using hlt
      by_cases hv : 0 < nth l k
      · have e2 : decide (0 < nth l k) = true := by simpa using hv
        have HA : Hid (anyUsed l = true) := Lib.hid ((any_iff l).2 ⟨k, by rw [HLL.out]; exact hlt, hv⟩)
        clear hv
        go_wp2_with fail
        go_ret
        rw [HA.out]
        exact ⟨rfl, HD.out⟩
      · have e2 : decide (0 < nth l k) = false := by simpa using hv
        have HV := Lib.hid hv
        clear hv
        go_wp2_with fail
        go_roundw
        case rel => exact ⟨k + 1, by omega, by go_num, Lib.hid (fun j hj => by
            by_cases hjk : j = k
            · subst hjk; exact HV.out
            · exact HM.out j (by omega)), HD⟩
        case measure => simp [intOf]; omega
    · obtain rfl : k = n := by omega
      have e1 : decide (k < k) = false := by simp
      have HA := Lib.hid (any_false_of (fun j hj => HM.out j (by rw [HLL.out] at hj; exact hj)))
      go_wp2_with fail
      go_ret
      rw [HA.out]
      exact ⟨rfl, HD.out⟩
set_option maxHeartbeats 400000 in
theorem rpower_calls (w : World) (n : Nat) (ni : Int) (hni : ni = n) (hn : n ≤ 15) : Calls Tryd.prog 104 #[.int .i64 ni] w fun e w' => e = .returned (.int .i64 ((2 ^ n : Nat) : Int)) ∧ w = w' := by
  subst hni
  go_enter Tryd.func104, Tryd.ntmps104
  go_wp2_with fail
  go_loopw [3, 4] (fun pv iv wr => ∃ k : Nat, k ≤ n ∧ iv = .int .i64 k ∧ pv = .int .i64 ((2 ^ k : Nat) : Int) ∧ Hid (w = wr)) (fun _ iv _ => n - (intOf iv).toNat)
  case atStart => exact ⟨0, by omega, rfl, rfl, Lib.hid rfl⟩
  case round =>
    obtain ⟨k, hk, rfl, rfl, HD⟩ := hrel
    have hb : 2 ^ k ≤ 2 ^ 15 := Nat.pow_le_pow_right (by decide) (by omega)
    have HS : Hid (2 ^ (k + 1) = 2 * 2 ^ k) := Lib.hid (by rw [Nat.pow_succ]; omega)
    rw [show (2 : Nat) ^ 15 = 32768 from rfl] at hb
    obtain ⟨x, hx⟩ : ∃ x, x = 2 ^ k := ⟨_, rfl⟩
    have HX := Lib.hid hx
    rw [← hx] at hb HS ⊢
    clear hx
    by_cases hlt : k < n
    · have e1 : decide (k < n) = true := by simpa using hlt
      go_wp2_with fail
      go_roundw
      case rel => exact ⟨k + 1, by omega, by go_num, by rw [HS.out]; go_num, HD⟩
      case measure => simp [intOf]; omega
    · obtain rfl : k = n := by omega
      have e1 : decide (k < k) = false := by simp
      go_wp2_with fail
      go_ret
      exact ⟨by first | rfl | (rw [HX.out]; rfl), HD.out⟩
def extraF (s : Nat) : Nat := if s < 265 then 0 else (s - 261) / 4
theorem rextra_calls (w : World) (s : Nat) (si : Int) (hsi : si = s) (hs : s ≤ 1000) : Calls Tryd.prog 105 #[.int .i64 si] w fun e w' => e = .returned (.int .i64 (extraF s)) ∧ w = w' := by
  subst hsi
  by_cases h : s < 265
  · have e1 : decide (s < 265) = true := by simpa using h
    have e1' : decide ((s : Int) < 265) = true := by simp; omega
    have HE : Hid (extraF s = 0) := Lib.hid (if_pos h)
    rw [HE.out]
    go_enter Tryd.func105, Tryd.ntmps105
    go_wp2_with fail
    go_ret
    exact ⟨rfl, rfl⟩
  · have e1 : decide (s < 265) = false := by simpa using h
    have e1' : decide ((s : Int) < 265) = false := by simp; omega
    have HE : Hid (((extraF s : Nat) : Int) = ((s : Int) - 261) / 4) := Lib.hid (by unfold extraF; rw [if_neg h]; omega)
    rw [HE.out]
    go_enter Tryd.func105, Tryd.ntmps105
    go_wp2_with fail
    go_ret
    exact ⟨rfl, rfl⟩
theorem rwide_calls (w : World) (s : Nat) (si : Int) (hsi : si = s) (hs : s ≤ 1000) : Calls Tryd.prog 106 #[.int .i64 si] w fun e w' => e = .returned (.int .i64 (distK s)) ∧ w = w' := by
  subst hsi
  by_cases h : s < 4
  · have e1 : decide (s < 4) = true := by simpa using h
    have e1' : decide ((s : Int) < 4) = true := by simp; omega
    have HE : Hid (distK s = 0) := Lib.hid (if_pos h)
    rw [HE.out]
    go_enter Tryd.func106, Tryd.ntmps106
    go_wp2_with fail
    go_ret
    exact ⟨rfl, rfl⟩
  · have e1 : decide (s < 4) = false := by simpa using h
    have e1' : decide ((s : Int) < 4) = false := by simp; omega
    have HE : Hid (((distK s : Nat) : Int) = ((s : Int) - 2) / 2) := Lib.hid (by unfold distK; rw [if_neg h]; omega)
    rw [HE.out]
    go_enter Tryd.func106, Tryd.ntmps106
    go_wp2_with fail
    go_ret
    exact ⟨rfl, rfl⟩
def lb : Nat → Nat
  | 0 => 3
  | k + 1 => lb k + 2 ^ extraF (257 + k)
theorem lb_base : ∀ k, k < 28 → lb k = lenBase (257 + k) ∧ extraF (257 + k) = lenK (257 + k) ∧ lb k ≤ 1000 ∧ extraF (257 + k) ≤ 5 := by decide
def db : Nat → Nat
  | 0 => 1
  | k + 1 => db k + 2 ^ distK k
theorem db_base : ∀ k, k < 30 → db k = distBase k ∧ db k ≤ 40000 ∧ distK k ≤ 13 := by decide +kernel
/-- What a number read behind a symbol answers: all of it, or what has come so far. -/
def RNum (w : World) (g : Nat) (B : Option Addr) (M c : Nat) (bs : List Int) (p : Nat) (out : List Int) (most : Nat) (ob : Option Nat) (base k : Nat) (r : Ending) (w' : World) : Prop :=
  ∃ (v : Int) (p' : Nat) (e' : Int), r = .returned (.int .i64 v) ∧ RD w' g B M c bs p' out most e' ob ∧ Keeps [g] w w' ∧ 0 ≤ v ∧ v ≤ 100000 ∧
    ((p + k ≤ M ∧ e' = 0 ∧ v = base + numB bs p k ∧ p' = p + k) ∨ (M < p + k ∧ e' = 55))
set_option maxRecDepth 100000 in
set_option maxHeartbeats 1000000 in
theorem rlength_calls (w : World) (g : Nat) (B : Option Addr) (M c : Nat) (bs : List Int) (p : Nat) (out : List Int) (most : Nat) (ob : Option Nat) (s : Nat) (h : RD w g B M c bs p out most 0 ob) (hs : 257 ≤ s) (hs2 : s ≤ 285) :
    Calls Tryd.prog 101 #[.pointer (some ⟨g, 0, none⟩), .int .i64 s] w (RNum w g B M c bs p out most ob (lenBase s) (lenK s)) := by
  have H := Lib.hid h
  have hle := h.le
  clear h
  by_cases h5 : s = 285
  · subst h5
    go_enter Tryd.func101, Tryd.ntmps101
    go_wp2_with fail
    go_ret
    exact ⟨258, p, 0, rfl, H.out, Keeps.refl _ _, by omega, by omega, .inl ⟨by simp [lenK]; omega, rfl, by simp [lenBase, lenK, numB], by simp [lenK]⟩⟩
  have e1 : ((s : Int) == 285) = false := by simp; omega
  obtain ⟨j, rfl⟩ : ∃ j, s = 257 + j := ⟨s - 257, by omega⟩
  have hj : j < 28 := by omega
  obtain ⟨b1, b2, b3, b4⟩ := lb_base j hj
  have HB1 := Lib.hid b1
  have HB2 := Lib.hid b2
  clear b1 b2
  have hc : ((257 + j : Nat) : Int) = 257 + (j : Int) := by omega
  rw [hc] at e1 ⊢
  go_enter Tryd.func101, Tryd.ntmps101
  go_wp2_with fail
  clear e1 hc
  go_loopw [5, 6] (fun bv kv wr => ∃ k : Nat, k ≤ j ∧ kv = .int .i64 (257 + (k : Int)) ∧ bv = .int .i64 (lb k) ∧ Hid (w = wr)) (fun _ kv _ => 257 + j - (intOf kv).toNat)
  case atStart => exact ⟨0, by omega, rfl, rfl, Lib.hid rfl⟩
  case round =>
    obtain ⟨k, hk, rfl, rfl, HD⟩ := hrel
    obtain ⟨d1, d2, d3, d4⟩ := lb_base k (by omega)
    have HS : Hid (lb (k + 1) = lb k + 2 ^ extraF (257 + k)) := Lib.hid rfl
    clear d1 d2
    by_cases hlt : k < j
    · have e2 : decide (257 + (k : Int) < 257 + (j : Int)) = true := by simp; omega
      go_wp2_with fail
      refine (rextra_calls wr (257 + k) _ (by omega) (by omega)).mono ?_
      rintro _ w1 ⟨rfl, rfl⟩
      go_wp2_with fail
      refine (rpower_calls wr (extraF (257 + k)) _ rfl (by omega)).mono ?_
      rintro _ w1 ⟨rfl, rfl⟩
      have hp : 2 ^ extraF (257 + k) ≤ 2 ^ 5 := Nat.pow_le_pow_right (by decide) d4
      rw [show (2 : Nat) ^ 5 = 32 from rfl] at hp
      generalize 2 ^ extraF (257 + k) = y at *
      generalize lb k = z at *
      go_wp2_with fail
      go_roundw
      case rel => exact ⟨k + 1, by omega, by go_num, by rw [HS.out]; go_num, HD⟩
      case measure => simp [intOf]; omega
    · obtain rfl : k = j := by omega
      have e2 : decide (257 + (k : Int) < 257 + (k : Int)) = false := by simp
      have HDw := HD.out
      subst HDw
      go_wp2_with fail
      refine (rextra_calls w (257 + k) _ (by omega) (by omega)).mono ?_
      rintro _ w1 ⟨rfl, rfl⟩
      go_wp2_with fail
      refine (rtake_calls w g B M c bs p out most 0 ob (extraF (257 + k)) _ rfl H.out (by omega)).mono ?_
      rintro _ w2 ⟨v, p', e', rfl, h2, k2, v0, v1, -, hc⟩
      have H2 := Lib.hid h2
      have K2 := Lib.hid k2
      have p32 : (2 : Int) ^ extraF (257 + k) ≤ 32 := by
        have : (2 : Nat) ^ extraF (257 + k) ≤ 2 ^ 5 := Nat.pow_le_pow_right (by decide) d4
        exact_mod_cast this
      have hv : v ≤ 32 := by omega
      have HC := Lib.hid hc
      clear h2 k2 hc v1 p32 HS
      generalize hz : lb k = z at *
      have HZ := Lib.hid hz
      clear hz
      go_wp2_with fail
      go_ret
      refine ⟨(z : Int) + v, p', e', rfl, H2.out, K2.out, by omega, by omega, ?_⟩
      rw [← HB1.out, ← HB2.out]
      rcases HC.out with ⟨-, x1, x2, x3, x4⟩ | ⟨-, x1, x2, _⟩ | ⟨x1, _⟩
      · exact .inl ⟨x1, x2, by rw [x3], x4⟩
      · exact .inr ⟨x1, x2⟩
      · exact absurd rfl x1
set_option maxRecDepth 100000 in
set_option maxHeartbeats 1000000 in
theorem rdistance_calls (w : World) (g : Nat) (B : Option Addr) (M c : Nat) (bs : List Int) (p : Nat) (out : List Int) (most : Nat) (ob : Option Nat) (j : Nat) (h : RD w g B M c bs p out most 0 ob) (hj : j < 30) :
    Calls Tryd.prog 102 #[.pointer (some ⟨g, 0, none⟩), .int .i64 j] w (RNum w g B M c bs p out most ob (distBase j) (distK j)) := by
  have H := Lib.hid h
  have hle := h.le
  clear h
  obtain ⟨b1, b3, b4⟩ := db_base j hj
  have HB1 := Lib.hid b1
  clear b1
  go_enter Tryd.func102, Tryd.ntmps102
  go_wp2_with fail
  go_loopw [5, 6] (fun bv kv wr => ∃ k : Nat, k ≤ j ∧ kv = .int .i64 k ∧ bv = .int .i64 (db k) ∧ Hid (w = wr)) (fun _ kv _ => j - (intOf kv).toNat)
  case atStart => exact ⟨0, by omega, rfl, rfl, Lib.hid rfl⟩
  case round =>
    obtain ⟨k, hk, rfl, rfl, HD⟩ := hrel
    obtain ⟨d1, d3, d4⟩ := db_base k (by omega)
    have HS : Hid (db (k + 1) = db k + 2 ^ distK k) := Lib.hid rfl
    clear d1
    by_cases hlt : k < j
    · have e2 : decide (k < j) = true := by simpa using hlt
      go_wp2_with fail
      refine (rwide_calls wr k _ rfl (by omega)).mono ?_
      rintro _ w1 ⟨rfl, rfl⟩
      go_wp2_with fail
      refine (rpower_calls wr (distK k) _ rfl (by omega)).mono ?_
      rintro _ w1 ⟨rfl, rfl⟩
      have hp : 2 ^ distK k ≤ 2 ^ 13 := Nat.pow_le_pow_right (by decide) d4
      rw [show (2 : Nat) ^ 13 = 8192 from rfl] at hp
      generalize 2 ^ distK k = y at *
      generalize db k = z at *
      go_wp2_with fail
      go_roundw
      case rel => exact ⟨k + 1, by omega, by go_num, by rw [HS.out]; go_num, HD⟩
      case measure => simp [intOf]; omega
    · obtain rfl : k = j := by omega
      have e2 : decide (k < k) = false := by simp
      have HDw := HD.out
      subst HDw
      go_wp2_with fail
      refine (rwide_calls w k _ rfl (by omega)).mono ?_
      rintro _ w1 ⟨rfl, rfl⟩
      go_wp2_with fail
      refine (rtake_calls w g B M c bs p out most 0 ob (distK k) _ rfl H.out (by omega)).mono ?_
      rintro _ w2 ⟨v, p', e', rfl, h2, k2, v0, v1, -, hc⟩
      have H2 := Lib.hid h2
      have K2 := Lib.hid k2
      have p32 : (2 : Int) ^ distK k ≤ 8192 := by
        have : (2 : Nat) ^ distK k ≤ 2 ^ 13 := Nat.pow_le_pow_right (by decide) d4
        exact_mod_cast this
      have hv : v ≤ 8192 := by omega
      have HC := Lib.hid hc
      clear h2 k2 hc v1 p32 HS
      generalize hz : db k = z at *
      have HZ := Lib.hid hz
      clear hz
      go_wp2_with fail
      go_ret
      refine ⟨(z : Int) + v, p', e', rfl, H2.out, K2.out, by omega, by omega, ?_⟩
      rw [← HB1.out]
      rcases HC.out with ⟨-, x1, x2, x3, x4⟩ | ⟨-, x1, x2, _⟩ | ⟨x1, _⟩
      · exact .inl ⟨x1, x2, by rw [x3], x4⟩
      · exact .inr ⟨x1, x2⟩
      · exact absurd rfl x1
end Go.Proofs.YtkpabdjniiepkaaDoor
