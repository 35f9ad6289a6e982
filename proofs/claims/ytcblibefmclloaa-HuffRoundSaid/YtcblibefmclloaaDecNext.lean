import Derived.Test.YtcblibefmclloaaHuffNew
import Derived.Test.YtcblibefmclloaaBits
import Derived.Test.YtcblibefmclloaaTurned
import Derived.RegionTactic
import Derived.BigQuiet
import Derived.WalkMore
import Derived.BigRegion
set_option linter.unusedVariables false
set_option linter.unusedSimpArgs false
namespace Go.Proofs.Ytcblibefmclloaa
open Go.RowKit
/-- A decoder that lies before a place. -/
def DecT (w : World) (g top : Nat) (l : List Int) : Prop :=
  ∃ A c, DB w g (lowL (lenCnt l) 16) (lenCnt l) (atL l 16) (.slice A (symsB l 16).length c) (longN l 16) ∧ RI .i64 w A (symsB l 16).length (symsB l 16) ∧ g < top ∧ ∀ x, A = some x → x.block < top
theorem DecT.keeps {w w' : World} {g top : Nat} {l : List Int} {K : List Nat} (h : DecT w g top l) (hk : Keeps K w w') (hK : ∀ x ∈ K, top ≤ x) : DecT w' g top l := by
  obtain ⟨A, c, h1, h2, h3, h4⟩ := h
  refine ⟨A, c, h1.keeps hk (fun hm => by have := hK g hm; omega), h2.keeps hk (fun x hx hm => by have := hK x.block hm; have := h4 x hx; omega), h3, h4⟩
theorem Dec.top {w : World} {g : Nat} {l : List Int} (h : Dec w g l) : DecT w g w.heap.size l := by
  obtain ⟨v, h1, h2⟩ := h
  obtain ⟨A, c, rfl, hr, _, ha⟩ := own_ri h2
  exact ⟨A, c, h1, hr, h1.lt, fun x hx => (ha x hx).2.1⟩
/-- What is read next: from the code so far, so many bits of it taken. -/
def decGo (l bs : List Int) (p : Nat) : Nat → Nat → Int → Int × Int × Nat
  | 0, _, _ => (0, 32, 0)
  | f + 1, n, x => if p + n + 1 ≤ 8 * bs.length then
      if 0 ≤ 2 * x + bitAt bs (p + n) - lowF (lenCnt l) (n + 1) ∧ 2 * x + bitAt bs (p + n) - lowF (lenCnt l) (n + 1) < nth (lenCnt l) (n + 1) then
        (nth (symsB l 16) ((symsB l (n + 1)).length + (2 * x + bitAt bs (p + n) - lowF (lenCnt l) (n + 1)).toNat), 0, n + 1)
      else decGo l bs p f (n + 1) (2 * x + bitAt bs (p + n))
    else (0, 10, 0)
def decF (l bs : List Int) (p : Nat) : Int × Int × Nat := decGo l bs p (longN l 16) 0 0
theorem or_bit64 (v b : Int) (h0 : 0 ≤ v) (h : v < 65536) (hb : 0 ≤ b ∧ b ≤ 1) : Go.bits .or .i64 (v * 2) b = 2 * v + b := by
  have := bits_join .i64 62 (by decide) wraps_i64 1 (v * 2) b (by omega) (by omega) (by omega) (by omega) (by omega) (by omega)
  rw [this]; omega
theorem take1_calls (w : World) (g : Nat) (A : Option Addr) (c : Nat) (bs : List Int) (p : Nat) (hr : Rdr w g A c bs p) (hf : p + 1 ≤ 8 * bs.length) :
    Calls Try.prog 42 #[.pointer (some ⟨g, 0, none⟩), .int .i64 1] w fun e w' => e = .returned (.tuple #[.int .u32 (bitAt bs p), .int .i64 0]) ∧ Rdr w' g A c bs (p + 1) ∧ Keeps [g] w w' := by
  have := take_calls w g A c bs p 1 hr (by omega) hf
  simpa [numB] using this
theorem take1_end (w : World) (g : Nat) (A : Option Addr) (c : Nat) (bs : List Int) (p : Nat) (hr : Rdr w g A c bs p) (hf : 8 * bs.length < p + 1) :
    Calls Try.prog 42 #[.pointer (some ⟨g, 0, none⟩), .int .i64 1] w fun e w' => e = .returned (.tuple #[.int .u32 0, .int .i64 10]) ∧ Dr w w' := by
  have := take_end w g A c bs p 1 hr (by omega) hf
  simpa using this
/-- What reading a symbol is to give. -/
def Nexted (w : World) (gr : Nat) (A : Option Addr) (c : Nat) (bs : List Int) (p : Nat) (r : Int × Int × Nat) (e : Ending) (w' : World) : Prop :=
  e = .returned (.tuple #[.int .i64 r.1, .int .i64 r.2.1]) ∧ Rdr w' gr A c bs (p + r.2.2) ∧ Keeps [gr] w w'
theorem nexted {w w' : World} {gr : Nat} {A : Option Addr} {c : Nat} {bs : List Int} {p k : Nat} {r : Int × Int × Nat} {s e : Int} (hr : r = (s, e, k)) (h : Rdr w' gr A c bs (p + k)) (hk : Keeps [gr] w w') :
    Nexted w gr A c bs p r (.returned (.tuple #[.int .i64 s, .int .i64 e])) w' := by
  subst hr; exact ⟨rfl, h, hk⟩
set_option maxRecDepth 100000 in
set_option maxHeartbeats 1000000 in
theorem next_calls (w : World) (g top gr : Nat) (l : List Int) (A : Option Addr) (c : Nat) (bs : List Int) (p : Nat) (hd : DecT w g top l) (hr : Rdr w gr A c bs p) (ht : top ≤ gr) (hl : l.length ≤ 288) :
    Calls Try.prog 23 #[.pointer (some ⟨g, 0, none⟩), .pointer (some ⟨gr, 0, none⟩)] w (Nexted w gr A c bs p (decF l bs p)) := by
  have HD := Lib.hid hd
  have HR := Lib.hid hr
  have HT := Lib.hid ht
  have HL := Lib.hid hl
  have hLL : longN l 16 < 16 := (longN_le l 16).resolve_right (by omega)
  obtain ⟨L, hL⟩ : ∃ L, L = longN l 16 := ⟨_, rfl⟩
  rw [← hL] at hLL
  have HLn := Lib.hid hL
  clear hd hr ht hl hL
  go_enter Try.func23, Try.ntmps23
  go_wp2_with fail
  go_step3
  go_wp2_with fail
  go_step3
  go_wp2_with fail
  go_loopw [6, 7, 8] (fun ev xv nv wr => ∃ (n : Nat) (x : Int), n ≤ L ∧ ev = .int .i64 32 ∧ nv = .int .i64 n ∧ xv = .int .i64 x ∧ 0 ≤ x ∧ x < 32768 ∧ Hid (x < 2 ^ n) ∧ Hid (decF l bs p = decGo l bs p (L - n) n x) ∧ Hid (Rdr wr gr A c bs (p + n)) ∧ Hid (Keeps [gr] w wr)) (fun _ _ nv _ => L - (intOf nv).toNat)
  case atStart => exact ⟨0, 0, by omega, rfl, rfl, rfl, by omega, by omega, Lib.hid (by simp), Lib.hid (by rw [HLn.out]; rfl), HR, Lib.hid (Keeps.refl _ _)⟩
  case round =>
    clear HR
    obtain ⟨n, x, hn, rfl, rfl, rfl, hx0, hx1, HX, HDF, HR, HK⟩ := hrel
    have HD1 := Lib.hid (HD.out.keeps HK.out (fun y hy => by rw [List.mem_singleton.1 hy]; exact HT.out))
    obtain ⟨sA, sc, hdb, hri, hgt, hat⟩ := HD1.out
    obtain ⟨q1, q2⟩ := hdb.syms
    rw [← HLn.out] at q2
    have HDB := Lib.hid hdb
    have HRI := Lib.hid hri
    have HAT := Lib.hid hat
    clear hdb hri hat q1
    by_cases hlt : n < L
    · have e0 : decide (n < L) = true := by simpa using hlt
      by_cases hend : p + n + 1 ≤ 8 * bs.length
      · have HEND := Lib.hid hend
        clear hend
        go_wp2_with fail
        refine (take1_calls _ _ _ _ _ _ HR.out HEND.out).mono ?_
        rintro _ w2 ⟨rfl, hr2, hk2⟩
        have HR2 : Hid (Rdr w2 gr A c bs (p + (n + 1))) := Lib.hid (by rw [← Nat.add_assoc]; exact hr2)
        have HK2 := Lib.hid (HK.out.trans hk2)
        have HD2 := Lib.hid (HD.out.keeps HK2.out (fun y hy => by rw [List.mem_singleton.1 hy]; exact HT.out))
        clear hr2 hk2 HK HR HD1 HDB HRI HAT q2
        obtain ⟨sA, sc, hdb, hri, hgt, hat⟩ := HD2.out
        obtain ⟨q1, q2⟩ := hdb.syms
        have q3 := hdb.code (j := n + 1) (by omega)
        have q4 := hdb.count (j := n + 1) (by omega)
        have q5 := hdb.at (j := n + 1) (by omega)
        rw [atL_at l (n + 1) (by omega) (by omega)] at q5
        rw [show nth (lowL (lenCnt l) 16) (n + 1) = lowF (lenCnt l) (n + 1) by unfold lowL; rw [nth_map_range _ _ _ (by omega), if_pos (by omega)]] at q3
        rw [← HLn.out] at q2
        have HRI := Lib.hid hri
        clear hdb hri hat
        have hgo : Hid (decF l bs p = if 0 ≤ 2 * x + bitAt bs (p + n) - lowF (lenCnt l) (n + 1) ∧ 2 * x + bitAt bs (p + n) - lowF (lenCnt l) (n + 1) < nth (lenCnt l) (n + 1) then
            (nth (symsB l 16) ((symsB l (n + 1)).length + (2 * x + bitAt bs (p + n) - lowF (lenCnt l) (n + 1)).toNat), 0, n + 1)
          else decGo l bs p (L - (n + 1)) (n + 1) (2 * x + bitAt bs (p + n))) := by
          show _ = _
          rw [HDF.out, show L - n = (L - (n + 1)) + 1 by omega, decGo, if_pos HEND.out]
        have hsa : Hid (∀ k : Nat, (k : Int) < nth (lenCnt l) (n + 1) → (symsB l (n + 1)).length + k < (symsB l 16).length) := Lib.hid (fun k hk => (symsB_at l (n + 1) (by omega) (by omega) k hk).1)
        obtain ⟨b0, b1⟩ := bitAt_le bs (p + n)
        obtain ⟨l0, l1⟩ := lowF_small l HL.out (n + 1) (by omega)
        obtain ⟨c0, c1⟩ := lenCnt_bd l (n + 1) (by omega)
        have c2 : nth (lenCnt l) (n + 1) ≤ 288 := by have := HL.out; omega
        have hy1 : Hid (2 * x + bitAt bs (p + n) < 2 ^ (n + 1)) := by show _ < _; have := HX.out; rw [Int.pow_succ]; omega
        have hp : (2 : Int) ^ (n + 1) ≤ 32768 := by
          have : (2 : Nat) ^ (n + 1) ≤ 2 ^ 15 := Nat.pow_le_pow_right (by decide) (by omega)
          exact_mod_cast this
        have hy2 : 2 * x + bitAt bs (p + n) < 32768 := by have := hy1.out; omega
        clear hp c1 HDF
        generalize bitAt bs (p + n) = b at *
        generalize lowF (lenCnt l) (n + 1) = lo at *
        generalize nth (lenCnt l) (n + 1) = ct at *
        have e4 : Go.bits .or .i64 (x * 2) b = 2 * x + b := or_bit64 x b hx0 (by omega) ⟨b0, b1⟩
        by_cases hk0 : 0 ≤ 2 * x + b - lo
        · obtain ⟨K, hK⟩ : ∃ K : Nat, 2 * x + b - lo = K := ⟨(2 * x + b - lo).toNat, by omega⟩
          by_cases hk1 : (K : Int) < ct
          · have HRES : Hid (decF l bs p = (nth (symsB l 16) ((symsB l (n + 1)).length + K), 0, n + 1)) := by
              show _ = _
              rw [hgo.out, hK, if_pos ⟨by omega, hk1⟩, Int.toNat_natCast]
            have hin := hsa.out K hk1
            obtain ⟨sb, so, rfl, hcell⟩ := HRI.out.at hin
            have HIN := Lib.hid hin
            have d2 : decide ((K : Int) < ct) = true := by simpa using hk1
            have hS16 : (symsB l 16).length ≤ 4608 := Nat.le_trans (symsB_len l 16) (by have := HL.out; omega)
            generalize hS : (symsB l (n + 1)).length = S at *
            generalize hSS : (symsB l 16).length = SS at *
            have s1 : ((S : Int) + (K : Int)).toNat = S + K := by omega
            have s2 : (0 : Int) ≤ (S : Int) + (K : Int) := by omega
            have s3 : (S : Int) + (K : Int) < (SS : Int) := by omega
            clear hS hSS hin
            have s7 : IntKind.i64.wrap ((S : Int) + (K : Int)) = (S : Int) + (K : Int) := IntWalk.i64_in _ (by omega)
            have s4 : (0 : Int) ≤ (n : Int) + 1 := by omega
            have s5 : (n : Int) + 1 < 16 := by omega
            have s6 : ((n : Int) + 1).toNat = n + 1 := by omega
            go_wp2_with fail
            go_quiet (fail)
            go_wp2_with fail
            go_ret2
            exact nexted HRES.out (HR2.out.dr ((Keeps.refl [] w2).drewN _)) (HK2.out.drewN _)
          · have HRES : Hid (decF l bs p = decGo l bs p (L - (n + 1)) (n + 1) (2 * x + b)) := by
              show _ = _
              rw [hgo.out, hK, if_neg (fun h => hk1 h.2)]
            have d2 : decide ((K : Int) < ct) = false := by simpa using hk1
            clear hgo hsa
            go_wp2_with fail
            go_roundw
            case rel => exact ⟨n + 1, 2 * x + b, by omega, rfl, by go_num, rfl, by omega, hy2, hy1, HRES, HR2, HK2⟩
            case measure => simp [intOf]; omega
        · have HRES : Hid (decF l bs p = decGo l bs p (L - (n + 1)) (n + 1) (2 * x + b)) := by
            show _ = _
            rw [hgo.out, if_neg (fun h => hk0 h.1)]
          have d2 : decide (0 ≤ 2 * x + b - lo) = false := by simpa using hk0
          clear hgo hsa
          go_wp2_with fail
          go_roundw
          case rel => exact ⟨n + 1, 2 * x + b, by omega, rfl, by go_num, rfl, by omega, hy2, hy1, HRES, HR2, HK2⟩
          case measure => simp [intOf]; omega
      · have HEND := Lib.hid hend
        clear hend
        have HRES : Hid (decF l bs p = (0, 10, 0)) := by
          show _ = _
          rw [HDF.out, show L - n = (L - n - 1) + 1 by omega, decGo, if_neg HEND.out]
        go_wp2_with fail
        refine (take1_end _ _ _ _ _ _ HR.out (by have := HEND.out; omega)).mono ?_
        rintro _ w2 ⟨rfl, hd2⟩
        have HR2 := Lib.hid (HR.out.dr (hd2.keeps (S := [])))
        have HK2 := Lib.hid (HK.out.trans (hd2.keeps (S := [gr])))
        clear hd2
        go_wp2_with fail
        refine (back_calls _ _ _ _ _ _ n HR2.out (by omega)).mono ?_
        rintro _ w3 ⟨rfl, hr3, hk3⟩
        have HR3 := Lib.hid hr3
        have HK3 := Lib.hid (HK2.out.trans hk3)
        clear hr3 hk3
        go_wp2_with fail
        go_ret2
        exact nexted HRES.out (by have := HR3.out; rwa [Nat.add_sub_cancel] at this) HK3.out
    · obtain rfl : n = L := by omega
      have HRES : Hid (decF l bs p = (0, 32, 0)) := by show _ = _; rw [HDF.out, Nat.sub_self]; rfl
      go_wp2_with fail
      refine (back_calls _ _ _ _ _ _ n HR.out (by omega)).mono ?_
      rintro _ w3 ⟨rfl, hr3, hk3⟩
      have HR3 := Lib.hid hr3
      have HK3 := Lib.hid (HK.out.trans hk3)
      clear hr3 hk3
      go_wp2_with fail
      go_ret2
      exact nexted HRES.out (by have := HR3.out; rwa [Nat.add_sub_cancel] at this) HK3.out
end Go.Proofs.Ytcblibefmclloaa
