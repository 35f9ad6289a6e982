import Derived.Test.YtcblibefmclloaaDoorMBits
set_option linter.unusedVariables false
set_option linter.unusedSimpArgs false
namespace Go.Proofs.YtcblibefmclloaaDoor
open Go.RowKit
/-- A reader of bytes, so many of whose bits are gone. -/
structure Rdr (w : World) (g : Nat) (A : Option Addr) (c : Nat) (bs : List Int) (p : Nat) : Prop where
  blk : Blk w g 93 [.slice A bs.length c, .int .i64 p]
  ri : RI .u8 w A bs.length bs
  off : Off [g] A
  le : p ≤ 8 * bs.length
  byte : ∀ j, 0 ≤ nth bs j ∧ nth bs j ≤ 255
  size : bs.length ≤ 4000000000
theorem Rdr.lt {w : World} {g : Nat} {A : Option Addr} {c : Nat} {bs : List Int} {p : Nat} (h : Rdr w g A c bs p) : g < w.heap.size := h.blk.lt
theorem Rdr.keeps {S : List Nat} {w w' : World} {g : Nat} {A : Option Addr} {c : Nat} {bs : List Int} {p : Nat} (h : Rdr w g A c bs p) (hk : Keeps S w w') (hg : g ∉ S) (ho : Off S A) : Rdr w' g A c bs p :=
  ⟨h.blk.keeps hk hg, h.ri.keeps hk ho, h.off, h.le, h.byte, h.size⟩
theorem Rdr.dr {w w' : World} {g : Nat} {A : Option Addr} {c : Nat} {bs : List Int} {p : Nat} (h : Rdr w g A c bs p) (hk : Keeps [] w w') : Rdr w' g A c bs p := h.keeps hk (by simp) (off_nil _)
/-- The reader further on (or back). -/
theorem Rdr.move {w : World} {g : Nat} {A : Option Addr} {c : Nat} {bs : List Int} {p : Nat} (h : Rdr w g A c bs p) {q : Nat} (hq : q ≤ 8 * bs.length) : Rdr (w.setCell ⟨g, 1, none⟩ (.int .i64 q)) g A c bs q :=
  ⟨h.blk.set 1 (.int .i64 q), h.ri.keeps ((Keeps.refl [g] w).setCell (Or.inl (by simp)) _) h.off, h.off, hq, h.byte, h.size⟩
set_option maxHeartbeats 400000 in
theorem left_calls (w : World) (g : Nat) (A : Option Addr) (c : Nat) (bs : List Int) (p : Nat) (hr : Rdr w g A c bs p) :
    Calls Tryd.prog 29 #[.pointer (some ⟨g, 0, none⟩)] w fun e w' => e = .returned (.int .i64 ((8 * bs.length - p : Nat) : Int)) ∧ Dr w w' := by
  have hb := hr.blk
  have h0 := hb.cell 0
  have h1 := hb.cell 1
  simp only [List.getElem?_cons_zero, List.getElem?_cons_succ] at h0 h1
  have hl := hr.le
  have hs := hr.size
  clear hb hr
  go_enter Tryd.func29, Tryd.ntmps29
  go_wp2
  go_quiet (fail)
  go_wp2
  go_ret
  rw [show ((8 * bs.length - p : Nat) : Int) = 8 * (bs.length : Int) - (p : Int) by omega]
  exact ⟨rfl, _, rfl⟩
set_option maxHeartbeats 400000 in
theorem gone_calls (w : World) (g : Nat) (A : Option Addr) (c : Nat) (bs : List Int) (p : Nat) (hr : Rdr w g A c bs p) :
    Calls Tryd.prog 28 #[.pointer (some ⟨g, 0, none⟩)] w fun e w' => e = .returned (.int .i64 p) ∧ Dr w w' := by
  have hb := hr.blk
  have h1 := hb.cell 1
  simp only [List.getElem?_cons_zero, List.getElem?_cons_succ] at h1
  clear hb hr
  go_enter Tryd.func28, Tryd.ntmps28
  go_wp2
  go_ret
  exact ⟨rfl, 0, rfl⟩
set_option maxHeartbeats 400000 in
theorem back_calls (w : World) (g : Nat) (A : Option Addr) (c : Nat) (bs : List Int) (p n : Nat) (hr : Rdr w g A c bs p) (hn : n ≤ p) :
    Calls Tryd.prog 59 #[.pointer (some ⟨g, 0, none⟩), .int .i64 n] w fun e w' => e = .returned (.int .i64 0) ∧ Rdr w' g A c bs (p - n) ∧ Keeps [g] w w' := by
  have hb := hr.blk
  have h1 := hb.cell 1
  simp only [List.getElem?_cons_zero, List.getElem?_cons_succ] at h1
  have hf := hb.frozen 1
  have hl := hr.le
  have hs := hr.size
  have HR := Lib.hid hr
  clear hb hr
  have e1 : decide ((n : Int) < 0) = false := by simp
  have e2 : decide ((p : Int) < (n : Int)) = false := by simp; omega
  have e3 : IntKind.i64.wrap ((p : Int) - (n : Int)) = (p : Int) - (n : Int) := IntWalk.i64_in _ (by omega)
  go_enter Tryd.func59, Tryd.ntmps59
  have E : Hid ((p : Int) - (n : Int) = ((p - n : Nat) : Int)) := by show _ = _; omega
  go_wp2
  go_ret
  rw [E.out]
  exact ⟨rfl, HR.out.move (by omega), (Keeps.refl _ _).setCell (Or.inl (by simp)) _⟩
theorem back_calls' (w : World) (g : Nat) (A : Option Addr) (c : Nat) (bs : List Int) (p n : Nat) (ni : Int) (hni : ni = n) (hr : Rdr w g A c bs p) (hn : n ≤ p) :
    Calls Tryd.prog 59 #[.pointer (some ⟨g, 0, none⟩), .int .i64 ni] w fun e w' => e = .returned (.int .i64 0) ∧ Rdr w' g A c bs (p - n) ∧ Keeps [g] w w' := by
  subst hni
  exact back_calls w g A c bs p n hr hn
set_option maxHeartbeats 400000 in
theorem take_arg (w : World) (g : Nat) (m : Int) (hm : m < 0 ∨ 32 < m) :
    Calls Tryd.prog 49 #[.pointer (some ⟨g, 0, none⟩), .int .i64 m] w fun e w' => e = .returned (.tuple #[.int .u32 0, .int .i64 1]) ∧ w = w' := by
  rcases hm with h | h
  · have e1 : decide (m < 0) = true := by simpa using h
    go_enter Tryd.func49, Tryd.ntmps49
    go_wp2
    go_ret2
    exact ⟨rfl, rfl⟩
  · have e1 : decide (m < 0) = false := by simp; omega
    have e2 : decide (32 < m) = true := by simpa using h
    go_enter Tryd.func49, Tryd.ntmps49
    go_wp2
    go_ret2
    exact ⟨rfl, rfl⟩
set_option maxHeartbeats 400000 in
theorem take_end (w : World) (g : Nat) (A : Option Addr) (c : Nat) (bs : List Int) (p m : Nat) (hr : Rdr w g A c bs p) (hm : m ≤ 32) (hf : 8 * bs.length < p + m) :
    Calls Tryd.prog 49 #[.pointer (some ⟨g, 0, none⟩), .int .i64 m] w fun e w' => e = .returned (.tuple #[.int .u32 0, .int .i64 10]) ∧ Dr w w' := by
  have e1 : decide ((m : Int) < 0) = false := by simp
  have e2 : decide ((32 : Int) < (m : Int)) = false := by simp; omega
  have HR := Lib.hid hr
  have hl := hr.le
  clear hr
  go_enter Tryd.func49, Tryd.ntmps49
  go_wp2_with fail
  refine (left_calls _ _ _ _ _ _ HR.out).mono ?_
  rintro e w' ⟨rfl, q, rfl⟩
  have e3 : decide (8 * bs.length - p < m) = true := by simp; omega
  go_wp2_with fail
  go_ret2
  exact ⟨rfl, _, rfl⟩
set_option maxHeartbeats 1000000 in
theorem take_calls (w : World) (g : Nat) (A : Option Addr) (c : Nat) (bs : List Int) (p m : Nat) (hr : Rdr w g A c bs p) (hm : m ≤ 32) (hf : p + m ≤ 8 * bs.length) :
    Calls Tryd.prog 49 #[.pointer (some ⟨g, 0, none⟩), .int .i64 m] w fun e w' => e = .returned (.tuple #[.int .u32 (numB bs p m), .int .i64 0]) ∧ Rdr w' g A c bs (p + m) ∧ Keeps [g] w w' := by
  have e1 : decide ((m : Int) < 0) = false := by simp
  have e2 : decide ((32 : Int) < (m : Int)) = false := by simp; omega
  have HR := Lib.hid hr
  have hl := hr.le
  have hsz := hr.size
  clear hr
  go_enter Tryd.func49, Tryd.ntmps49
  go_wp2_with fail
  refine (left_calls _ _ _ _ _ _ HR.out).mono ?_
  rintro e w' ⟨rfl, hd⟩
  have HR1 := Lib.hid (HR.out.dr hd.keeps)
  have HD := Lib.hid hd
  have e3 : decide (8 * bs.length - p < m) = false := by simp; omega
  clear hd HR
  go_wp2_with fail
  clear e1 e2 e3
  go_loopw [6, 7] (fun v6 v7 wr => ∃ h : Nat, h ≤ m ∧ v6 = .int .u64 (numB bs p h) ∧ v7 = .int .i64 h ∧ Hid (Rdr wr g A c bs (p + h)) ∧ Hid (Keeps [g] w' wr)) (fun _ v7 _ => (m - intOf v7).toNat)
  case atStart => exact ⟨0, by omega, rfl, rfl, HR1, Lib.hid (Keeps.refl _ _)⟩
  case round =>
    clear HR1
    obtain ⟨h, hh, rfl, rfl, HR, HK⟩ := hrel
    by_cases hlt : h < m
    · have hb := HR.out.blk
      have hri := HR.out.ri
      have h0 := hb.cell 0
      have h1 := hb.cell 1
      simp only [List.getElem?_cons_zero, List.getElem?_cons_succ] at h0 h1
      have hfz := hb.frozen 1
      obtain ⟨b, o, rfl, hbyte⟩ := hri.at (show (p + h) / 8 < bs.length by omega)
      have hbb := HR.out.byte ((p + h) / 8)
      have hc1 : ((p + h : Nat) : Int) = (p : Int) + (h : Int) := by omega
      rw [hc1] at h1
      clear hb hri hc1
      obtain ⟨k, hk⟩ : ∃ k : Nat, (if 8 - ((p : Int) + h) % 8 < (m : Int) - h then 8 - ((p : Int) + h) % 8 else (m : Int) - h) = (k : Int) := ⟨min (m - h) (8 - (p + h) % 8), by split <;> omega⟩
      have hk1 : 1 ≤ k := by split at hk <;> omega
      have hk8 : (p + h) % 8 + k ≤ 8 := by split at hk <;> omega
      have hkm : h + k ≤ m := by split at hk <;> omega
      have HKK := Lib.hid hk
      have s1 : ((p : Int) + h).toNat = p + h := by omega
      have s2 : (((p : Int) + h) / 8).toNat = (p + h) / 8 := by omega
      have s3 : (0 : Int) ≤ ((p : Int) + h) / 8 := by omega
      have s4 : ((p : Int) + h) / 8 < (bs.length : Int) := by omega
      have s5 : (0 : Int) ≤ ((p : Int) + h) % 8 := by omega
      have s6 : ((p : Int) + h) % 8 < 8 := by omega
      have s7 : (0 : Int) ≤ (p : Int) + h := by omega
      go_upto_region 11 with (fail)
      clear hk
      go_quiet (fail)
      have T := Lib.hid (take_part bs p h k hbb hk8 (by omega))
      go_upto_region 14 with (fail)
      rw [T.out]
      have E : Hid ((p : Int) + h + k = ((p + (h + k) : Nat) : Int)) := by show _ = _; omega
      have e4 : IntKind.i64.wrap ((p : Int) + h + k) = (p : Int) + h + k := IntWalk.i64_in _ (by omega)
      go_wp2_with fail
      go_roundw
      case rel =>
        refine ⟨h + k, hkm, rfl, by go_num, Lib.hid ?_, Lib.hid ?_⟩
        · rw [E.out]; exact (Rdr.dr HR.out (by repeat (first | exact Keeps.refl _ _ | apply Keeps.drewN | apply Keeps.drew))).move (by omega)
        · exact (HK.out.trans (by repeat (first | exact Keeps.refl _ _ | apply Keeps.drewN | apply Keeps.drew))).setCell (Or.inl (by simp)) _
      case measure => simp [intOf]; omega
    · obtain rfl : h = m := by omega
      have E := Lib.hid (num_u32 bs p h hm)
      go_wp2_with fail
      go_ret2
      rw [E.out]
      exact ⟨rfl, HR.out, (HD.out.keeps (S := [g])).trans HK.out⟩
end Go.Proofs.YtcblibefmclloaaDoor
