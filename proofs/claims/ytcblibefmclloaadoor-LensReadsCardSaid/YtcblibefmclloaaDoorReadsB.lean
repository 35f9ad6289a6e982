import Derived.Test.YtcblibefmclloaaDoorReadsA
import Derived.Laws.BitsLemmas
import Derived.Laws.AppendOwnNone
import Derived.OneCell
/- Wraps and masks of 64 bits. -/
set_option linter.unusedVariables false
set_option linter.unusedSimpArgs false
namespace Go.Proofs.YtcblibefmclloaaDoor
theorem wrap_u64 (n : Int) : IntKind.u64.wrap n = n % 18446744073709551616 := by simp [IntKind.wrap, IntKind.bits, IntKind.signed]
theorem wraps_u64 (n : Int) (h₀ : 0 ≤ n) (h₁ : n < 2 ^ 64) : IntKind.u64.wrap n = n := by rw [wrap_u64]; omega
theorem u64_mask32 (x : Int) (h₀ : 0 ≤ x) (h₁ : x < 18446744073709551616) : Go.bits .and .u64 x 4294967295 = x % 4294967296 := bits_mask .u64 64 (by decide) wraps_u64 32 (by decide) x h₀ h₁
end Go.Proofs.YtcblibefmclloaaDoor

/- Bits of bytes: plain numbers. -/
set_option linter.unusedVariables false
set_option linter.unusedSimpArgs false
namespace Go.Proofs.YtcblibefmclloaaDoor
/-- The bit at a place. -/
def bitAt (bs : List Int) (i : Nat) : Int := (nth bs (i / 8)) / 2 ^ (i % 8) % 2
/-- The number of so many bits from a place on. -/
def numB (bs : List Int) (p : Nat) : Nat → Int
  | 0 => 0
  | n + 1 => numB bs p n + bitAt bs (p + n) * 2 ^ n
theorem bitAt_le (bs : List Int) (i : Nat) : 0 ≤ bitAt bs i ∧ bitAt bs i ≤ 1 := by unfold bitAt; omega
theorem pow_cast (n : Nat) : (0 : Int) < 2 ^ n := by exact_mod_cast Nat.two_pow_pos n
theorem numB_lt (bs : List Int) (p : Nat) : ∀ n, 0 ≤ numB bs p n ∧ numB bs p n < 2 ^ n
  | 0 => by simp [numB]
  | n + 1 => by
    have ih := numB_lt bs p n
    have hb := bitAt_le bs (p + n)
    have hp := pow_cast n
    rw [numB, Int.pow_succ]
    rcases (by omega : bitAt bs (p + n) = 0 ∨ bitAt bs (p + n) = 1) with h | h <;> rw [h] <;> omega
theorem numB_add (bs : List Int) (p h : Nat) : ∀ k, numB bs p (h + k) = numB bs p h + numB bs (p + h) k * 2 ^ h
  | 0 => by simp [numB]
  | k + 1 => by
    rw [← Nat.add_assoc, numB, numB_add bs p h k, numB, Int.add_mul, Nat.add_assoc p h k, Int.pow_add, Int.mul_assoc, Int.mul_comm (2 ^ h) (2 ^ k), Int.add_assoc]
theorem div_div (a b c : Int) (hb : 0 < b) : a / b / c = a / (b * c) := by
  rw [Int.ediv_ediv, if_neg (by rintro ⟨h, _⟩; omega)]; simp
theorem div_pow_succ (x : Int) (k : Nat) : x % 2 ^ (k + 1) = x % 2 ^ k + (x / 2 ^ k % 2) * 2 ^ k := by
  have hp := pow_cast k
  have h1 := Int.emod_add_mul_ediv x (2 ^ k)
  have h2 := Int.emod_add_mul_ediv (x / 2 ^ k) 2
  have h3 := Int.emod_nonneg x (show (2 : Int) ^ k ≠ 0 by omega)
  have h4 := Int.emod_lt_of_pos x hp
  have h5 : x / 2 ^ (k + 1) = x / 2 ^ k / 2 := by rw [Int.pow_succ, div_div _ _ _ (by omega)]
  have h6 := Int.emod_add_mul_ediv x (2 ^ (k + 1))
  rw [h5] at h6
  rw [Int.pow_succ] at *
  have e : x = x % 2 ^ k + 2 ^ k * (x / 2 ^ k % 2 + 2 * (x / 2 ^ k / 2)) := by rw [h2]; omega
  rw [Int.mul_add] at e
  have e2 : 2 ^ k * (2 * (x / 2 ^ k / 2)) = 2 ^ k * 2 * (x / 2 ^ k / 2) := by rw [Int.mul_assoc]
  rw [Int.mul_comm (x / 2 ^ k % 2)]
  omega
/-- Within one byte. -/
theorem numB_byte (bs : List Int) (p : Nat) : ∀ k, p % 8 + k ≤ 8 → numB bs p k = nth bs (p / 8) / 2 ^ (p % 8) % 2 ^ k
  | 0, _ => by simp [numB, Int.emod_one]
  | k + 1, h => by
    rw [numB, numB_byte bs p k (by omega), div_pow_succ]
    congr 2
    unfold bitAt
    rw [show (p + k) / 8 = p / 8 by omega, show (p + k) % 8 = p % 8 + k by omega, Int.pow_add]
    rw [div_div _ _ _ (pow_cast _)]
theorem or_join (i : Nat) (x y : Int) (hx₀ : 0 ≤ x) (hx : x % 2 ^ i = 0) (hx₁ : x < 2 ^ 64) (hy₀ : 0 ≤ y) (hy : y < 2 ^ i) (hy₁ : y < 2 ^ 64) : Go.bits .or .u64 y x = x + y := by
  have h := bits_join .u64 64 (by decide) wraps_u64 i x y hx₀ hx hx₁ hy₀ hy hy₁
  obtain ⟨a, rfl⟩ := Int.eq_ofNat_of_zero_le hx₀
  obtain ⟨b, rfl⟩ := Int.eq_ofNat_of_zero_le hy₀
  have ha : a < 2 ^ 64 := by exact_mod_cast hx₁
  have hb : b < 2 ^ 64 := by exact_mod_cast hy₁
  rw [(bits_nat .u64 64 (by decide) wraps_u64 a b ha hb).2] at h
  rw [(bits_nat .u64 64 (by decide) wraps_u64 b a hb ha).2, Nat.or_comm]
  exact h
theorem pow_le8 (k : Nat) (h : k ≤ 8) : (2 : Int) ^ k ≤ 256 := by
  have h1 : 2 ^ k ≤ 2 ^ 8 := Nat.pow_le_pow_right (by decide) h
  have : ((2 ^ k : Nat) : Int) ≤ ((2 ^ 8 : Nat) : Int) := by exact_mod_cast h1
  simpa using this
theorem take_byte (bs : List Int) (q k : Nat) (hb : 0 ≤ nth bs (q / 8) ∧ nth bs (q / 8) ≤ 255) (hk : q % 8 + k ≤ 8) :
    Go.bits .and .u8 (nth bs (q / 8) / 2 ^ (q % 8)) ((2 ^ k - 1) % 256) = numB bs q k := by
  have hp := pow_cast k
  have hp8 := pow_le8 k (by omega)
  have e1 : ((2 : Int) ^ k - 1) % 256 = 2 ^ k - 1 := by omega
  have hq := pow_cast (q % 8)
  have h1 : 0 ≤ nth bs (q / 8) / 2 ^ (q % 8) := Int.ediv_nonneg hb.1 (by omega)
  have h2 : nth bs (q / 8) / 2 ^ (q % 8) ≤ nth bs (q / 8) := Int.ediv_le_self _ hb.1
  rw [e1, bits_mask .u8 8 (by decide) wraps_u8 k (by omega) _ h1 (by omega), numB_byte bs q k hk]
theorem pow32 (h : Nat) (hh : h ≤ 32) : (2 : Int) ^ h ≤ 4294967296 := by
  have h1 : 2 ^ h ≤ 2 ^ 32 := Nat.pow_le_pow_right (by decide) hh
  have : ((2 ^ h : Nat) : Int) ≤ ((2 ^ 32 : Nat) : Int) := by exact_mod_cast h1
  simpa using this
theorem take_part (bs : List Int) (p h k : Nat) (hb : 0 ≤ nth bs ((p + h) / 8) ∧ nth bs ((p + h) / 8) ≤ 255) (hk : (p + h) % 8 + k ≤ 8) (hh : h + k ≤ 32) :
    Go.bits .or .u64 (numB bs p h) (IntKind.u64.wrap (IntKind.u64.wrap (Go.bits .and .u8 (nth bs ((p + h) / 8) / 2 ^ ((p + h) % 8)) ((2 ^ k - 1) % 256)) * 2 ^ h)) = numB bs p (h + k) := by
  rw [take_byte bs (p + h) k hb hk]
  have h1 := numB_lt bs (p + h) k
  have h2 := numB_lt bs p h
  have h3 := pow_cast h
  have h4 := pow32 h (by omega)
  have h5 := pow_le8 k (by omega)
  have h6 := numB_lt bs p (h + k)
  have h7 := pow32 (h + k) (by omega)
  have h8 := numB_add bs p h k
  rw [wraps_u64 (numB bs (p + h) k) h1.1 (by omega)]
  have h9 : 0 ≤ numB bs (p + h) k * 2 ^ h := Int.mul_nonneg h1.1 (by omega)
  have h10 : numB bs (p + h) k * 2 ^ h < 2 ^ 64 := by omega
  rw [wraps_u64 _ h9 h10, or_join h _ _ h9 (by simp) h10 h2.1 h2.2 (by omega), h8]
  omega
theorem num_u32 (bs : List Int) (p m : Nat) (hm : m ≤ 32) : numB bs p m % 4294967296 = numB bs p m := by
  have h1 := numB_lt bs p m
  have h2 := pow32 m hm
  omega
end Go.Proofs.YtcblibefmclloaaDoor

set_option linter.unusedVariables false
set_option linter.unusedSimpArgs false
namespace Go.Proofs.YtcblibefmclloaaDoor
open Go.RowKit
/-- A reader of bytes, so many of whose bits are gone. -/
structure Rdr (w : World) (g : Nat) (A : Option Addr) (c : Nat) (bs : List Int) (p : Nat) : Prop where
  blk : Blk w g 93 [.slice A bs.length c, .int .i64 p]
  ri : RI .u8 w A bs.length bs
  off : Off [g] A
  le : p ≤ 8 * bs.length
  byte : ∀ j, 0 ≤ nth bs j ∧ nth bs j ≤ 255
  size : bs.length ≤ 4000000000
theorem Rdr.lt {w : World} {g : Nat} {A : Option Addr} {c : Nat} {bs : List Int} {p : Nat} (h : Rdr w g A c bs p) : g < w.heap.size := h.blk.lt
theorem Rdr.keeps {S : List Nat} {w w' : World} {g : Nat} {A : Option Addr} {c : Nat} {bs : List Int} {p : Nat} (h : Rdr w g A c bs p) (hk : Keeps S w w') (hg : g ∉ S) (ho : Off S A) : Rdr w' g A c bs p :=
  ⟨h.blk.keeps hk hg, h.ri.keeps hk ho, h.off, h.le, h.byte, h.size⟩
theorem Rdr.dr {w w' : World} {g : Nat} {A : Option Addr} {c : Nat} {bs : List Int} {p : Nat} (h : Rdr w g A c bs p) (hk : Keeps [] w w') : Rdr w' g A c bs p := h.keeps hk (by simp) (off_nil _)
/-- The reader further on (or back). -/
theorem Rdr.move {w : World} {g : Nat} {A : Option Addr} {c : Nat} {bs : List Int} {p : Nat} (h : Rdr w g A c bs p) {q : Nat} (hq : q ≤ 8 * bs.length) : Rdr (w.setCell ⟨g, 1, none⟩ (.int .i64 q)) g A c bs q :=
  ⟨h.blk.set 1 (.int .i64 q), h.ri.keeps ((Keeps.refl [g] w).setCell (Or.inl (by simp)) _) h.off, h.off, hq, h.byte, h.size⟩
set_option maxHeartbeats 400000 in
theorem left_calls (w : World) (g : Nat) (A : Option Addr) (c : Nat) (bs : List Int) (p : Nat) (hr : Rdr w g A c bs p) :
    Calls Tryd.prog 29 #[.pointer (some ⟨g, 0, none⟩)] w fun e w' => e = .returned (.int .i64 ((8 * bs.length - p : Nat) : Int)) ∧ Dr w w' := by
  have hb := hr.blk
  have h0 := hb.cell 0
  have h1 := hb.cell 1
  simp only [List.getElem?_cons_zero, List.getElem?_cons_succ] at h0 h1
  have hl := hr.le
  have hs := hr.size
  clear hb hr
  go_enter Tryd.func29, Tryd.ntmps29
  go_wp2
  go_quiet (fail)
  go_wp2
  go_ret
  rw [show ((8 * bs.length - p : Nat) : Int) = 8 * (bs.length : Int) - (p : Int) by omega]
  exact ⟨rfl, _, rfl⟩
set_option maxHeartbeats 400000 in
theorem gone_calls (w : World) (g : Nat) (A : Option Addr) (c : Nat) (bs : List Int) (p : Nat) (hr : Rdr w g A c bs p) :
    Calls Tryd.prog 28 #[.pointer (some ⟨g, 0, none⟩)] w fun e w' => e = .returned (.int .i64 p) ∧ Dr w w' := by
  have hb := hr.blk
  have h1 := hb.cell 1
  simp only [List.getElem?_cons_zero, List.getElem?_cons_succ] at h1
  clear hb hr
  go_enter Tryd.func28, Tryd.ntmps28
  go_wp2
  go_ret
  exact ⟨rfl, 0, rfl⟩
set_option maxHeartbeats 400000 in
theorem back_calls (w : World) (g : Nat) (A : Option Addr) (c : Nat) (bs : List Int) (p n : Nat) (hr : Rdr w g A c bs p) (hn : n ≤ p) :
    Calls Tryd.prog 59 #[.pointer (some ⟨g, 0, none⟩), .int .i64 n] w fun e w' => e = .returned (.int .i64 0) ∧ Rdr w' g A c bs (p - n) ∧ Keeps [g] w w' := by
  have hb := hr.blk
  have h1 := hb.cell 1
  simp only [List.getElem?_cons_zero, List.getElem?_cons_succ] at h1
  have hf := hb.frozen 1
  have hl := hr.le
  have hs := hr.size
  have HR := Lib.hid hr
  clear hb hr
  have e1 : decide ((n : Int) < 0) = false := by simp
  have e2 : decide ((p : Int) < (n : Int)) = false := by simp; omega
  have e3 : IntKind.i64.wrap ((p : Int) - (n : Int)) = (p : Int) - (n : Int) := IntWalk.i64_in _ (by omega)
  go_enter Tryd.func59, Tryd.ntmps59
  have E : Hid ((p : Int) - (n : Int) = ((p - n : Nat) : Int)) := by show _ = _; omega
  go_wp2
  go_ret
  rw [E.out]
  exact ⟨rfl, HR.out.move (by omega), (Keeps.refl _ _).setCell (Or.inl (by simp)) _⟩
theorem back_calls' (w : World) (g : Nat) (A : Option Addr) (c : Nat) (bs : List Int) (p n : Nat) (ni : Int) (hni : ni = n) (hr : Rdr w g A c bs p) (hn : n ≤ p) :
    Calls Tryd.prog 59 #[.pointer (some ⟨g, 0, none⟩), .int .i64 ni] w fun e w' => e = .returned (.int .i64 0) ∧ Rdr w' g A c bs (p - n) ∧ Keeps [g] w w' := by
  subst hni
  exact back_calls w g A c bs p n hr hn
set_option maxHeartbeats 400000 in
theorem take_arg (w : World) (g : Nat) (m : Int) (hm : m < 0 ∨ 32 < m) :
    Calls Tryd.prog 49 #[.pointer (some ⟨g, 0, none⟩), .int .i64 m] w fun e w' => e = .returned (.tuple #[.int .u32 0, .int .i64 1]) ∧ w = w' := by
  rcases hm with h | h
  · have e1 : decide (m < 0) = true := by simpa using h
    go_enter Tryd.func49, Tryd.ntmps49
    go_wp2
    go_ret2
    exact ⟨rfl, rfl⟩
  · have e1 : decide (m < 0) = false := by simp; omega
    have e2 : decide (32 < m) = true := by simpa using h
    go_enter Tryd.func49, Tryd.ntmps49
    go_wp2
    go_ret2
    exact ⟨rfl, rfl⟩
set_option maxHeartbeats 400000 in
theorem take_end (w : World) (g : Nat) (A : Option Addr) (c : Nat) (bs : List Int) (p m : Nat) (hr : Rdr w g A c bs p) (hm : m ≤ 32) (hf : 8 * bs.length < p + m) :
    Calls Tryd.prog 49 #[.pointer (some ⟨g, 0, none⟩), .int .i64 m] w fun e w' => e = .returned (.tuple #[.int .u32 0, .int .i64 10]) ∧ Dr w w' := by
  have e1 : decide ((m : Int) < 0) = false := by simp
  have e2 : decide ((32 : Int) < (m : Int)) = false := by simp; omega
  have HR := Lib.hid hr
  have hl := hr.le
  clear hr
  go_enter Tryd.func49, Tryd.ntmps49
  go_wp2_with fail
  refine (left_calls _ _ _ _ _ _ HR.out).mono ?_
  rintro e w' ⟨rfl, q, rfl⟩
  have e3 : decide (8 * bs.length - p < m) = true := by simp; omega
  go_wp2_with fail
  go_ret2
  exact ⟨rfl, _, rfl⟩
set_option maxHeartbeats 1000000 in
theorem take_calls (w : World) (g : Nat) (A : Option Addr) (c : Nat) (bs : List Int) (p m : Nat) (hr : Rdr w g A c bs p) (hm : m ≤ 32) (hf : p + m ≤ 8 * bs.length) :
    Calls Tryd.prog 49 #[.pointer (some ⟨g, 0, none⟩), .int .i64 m] w fun e w' => e = .returned (.tuple #[.int .u32 (numB bs p m), .int .i64 0]) ∧ Rdr w' g A c bs (p + m) ∧ Keeps [g] w w' := by
  have e1 : decide ((m : Int) < 0) = false := by simp
  have e2 : decide ((32 : Int) < (m : Int)) = false := by simp; omega
  have HR := Lib.hid hr
  have hl := hr.le
  have hsz := hr.size
  clear hr
  go_enter Tryd.func49, Tryd.ntmps49
  go_wp2_with fail
  refine (left_calls _ _ _ _ _ _ HR.out).mono ?_
  rintro e w' ⟨rfl, hd⟩
  have HR1 := Lib.hid (HR.out.dr hd.keeps)
  have HD := Lib.hid hd
  have e3 : decide (8 * bs.length - p < m) = false := by simp; omega
  clear hd HR
  go_wp2_with fail
  clear e1 e2 e3
  go_loopw [6, 7] (fun v6 v7 wr => ∃ h : Nat, h ≤ m ∧ v6 = .int .u64 (numB bs p h) ∧ v7 = .int .i64 h ∧ Hid (Rdr wr g A c bs (p + h)) ∧ Hid (Keeps [g] w' wr)) (fun _ v7 _ => (m - intOf v7).toNat)
  case atStart => exact ⟨0, by omega, rfl, rfl, HR1, Lib.hid (Keeps.refl _ _)⟩
  case round =>
    clear HR1
    obtain ⟨h, hh, rfl, rfl, HR, HK⟩ := hrel
    by_cases hlt : h < m
    · have hb := HR.out.blk
      have hri := HR.out.ri
      have h0 := hb.cell 0
      have h1 := hb.cell 1
      simp only [List.getElem?_cons_zero, List.getElem?_cons_succ] at h0 h1
      have hfz := hb.frozen 1
      obtain ⟨b, o, rfl, hbyte⟩ := hri.at (show (p + h) / 8 < bs.length by omega)
      have hbb := HR.out.byte ((p + h) / 8)
      have hc1 : ((p + h : Nat) : Int) = (p : Int) + (h : Int) := by omega
      rw [hc1] at h1
      clear hb hri hc1
      obtain ⟨k, hk⟩ : ∃ k : Nat, (if 8 - ((p : Int) + h) % 8 < (m : Int) - h then 8 - ((p : Int) + h) % 8 else (m : Int) - h) = (k : Int) := ⟨min (m - h) (8 - (p + h) % 8), by split <;> omega⟩
      have hk1 : 1 ≤ k := by split at hk <;> omega
      have hk8 : (p + h) % 8 + k ≤ 8 := by split at hk <;> omega
      have hkm : h + k ≤ m := by split at hk <;> omega
      have HKK := Lib.hid hk
      have s1 : ((p : Int) + h).toNat = p + h := by omega
      have s2 : (((p : Int) + h) / 8).toNat = (p + h) / 8 := by omega
      have s3 : (0 : Int) ≤ ((p : Int) + h) / 8 := by omega
      have s4 : ((p : Int) + h) / 8 < (bs.length : Int) := by omega
      have s5 : (0 : Int) ≤ ((p : Int) + h) % 8 := by omega
      have s6 : ((p : Int) + h) % 8 < 8 := by omega
      have s7 : (0 : Int) ≤ (p : Int) + h := by omega
      go_upto_region 11 with (fail)
      clear hk
      go_quiet (fail)
      have T := Lib.hid (take_part bs p h k hbb hk8 (by omega))
      go_upto_region 14 with (fail)
      rw [T.out]
      have E : Hid ((p : Int) + h + k = ((p + (h + k) : Nat) : Int)) := by show _ = _; omega
      have e4 : IntKind.i64.wrap ((p : Int) + h + k) = (p : Int) + h + k := IntWalk.i64_in _ (by omega)
      go_wp2_with fail
      go_roundw
      case rel =>
        refine ⟨h + k, hkm, rfl, by go_num, Lib.hid ?_, Lib.hid ?_⟩
        · rw [E.out]; exact (Rdr.dr HR.out (by repeat (first | exact Keeps.refl _ _ | apply Keeps.drewN | apply Keeps.drew))).move (by omega)
        · exact (HK.out.trans (by repeat (first | exact Keeps.refl _ _ | apply Keeps.drewN | apply Keeps.drew))).setCell (Or.inl (by simp)) _
      case measure => simp [intOf]; omega
    · obtain rfl : h = m := by omega
      have E := Lib.hid (num_u32 bs p h hm)
      go_wp2_with fail
      go_ret2
      rw [E.out]
      exact ⟨rfl, HR.out, (HD.out.keeps (S := [g])).trans HK.out⟩
end Go.Proofs.YtcblibefmclloaaDoor

set_option linter.unusedVariables false
set_option linter.unusedSimpArgs false
namespace Go.Proofs.YtcblibefmclloaaDoor
open Go.RowKit
theorem ints_one' (k : IntKind) (xs : List Int) : ∀ v ∈ ints k xs, v.oneCell' = true := by
  intro u hu; simp only [ints, List.mem_map] at hu; obtain ⟨x, _, rfl⟩ := hu; rfl
/-- 's = append(s, ys...)' of bytes, whatever slice the source is. -/
theorem app_bytes {ops : Array Oper} {rest : List Oper} {o : Oper} {a : Act} {Q : Exit → Act → World → Prop} {w : World} (hgd : o.guard = none) (s x : Operand)
    (ho : o.op = .call { callee := .builtin .append, args := #[s, x], argTypes := #[37, 37] })
    (base : Nat) (v : Value) (n : Nat) (xs : List Int) (hs : a.eval s = v) (hown : w.ownsRow base 5 1 v n (ints .u8 xs))
    (A : Option Addr) (m c : Nat) (ys : List Int) (hx : a.eval x = .slice A m c) (hy : RI .u8 w A m ys) (hnil : A = none → m = 0 ∧ c = 0)
    (hn : n + m ≤ 8000000000) (hbase : base ≤ w.heap.size)
    (h : ∀ v' w', w'.ownsRow base 5 1 v' (n + m) (ints .u8 (xs ++ ys)) → w.grownBy w' v.ownBlock → wpList Tryd.prog ops Q rest (a.put o.dst v') w') : wpList Tryd.prog ops Q (o :: rest) a w := by
  obtain ⟨i0, hi, hz0, hz1, hz2⟩ := info_parts info_u8
  cases A with
  | none =>
    obtain ⟨rfl, rfl⟩ := hnil rfl
    obtain rfl : ys = [] := List.eq_nil_of_length_eq_zero hy.len
    refine wpList_append_own_none hgd s x 37 ho base 5 i0 1 Tryd.underlying37 hi v n (ints .u8 xs) hs hown hx ?_
    exact h v w (by simpa using hown) ⟨rfl, rfl, rfl, Nat.le_refl _, fun _ _ _ => rfl⟩
  | some ad =>
    refine wpList_append_own _ hgd s x 37 ho base 5 i0 (.int .u8 0) 1 1 Tryd.underlying37 hi hz0 hz1 hz2 rfl (by decide) v n (ints .u8 xs) hs hown ad m c (ints .u8 ys) hx (by simp [ints, hy.len]) ?_ (ints_one' _ _) (by unfold maxLen; omega) (by omega) hbase ?_
    · intro j u hu
      have hj : j < m := by have := (List.getElem?_eq_some_iff.1 hu).1; have := hy.len; simp [ints] at *; omega
      obtain ⟨b, of, hab⟩ := hy.hd (by omega)
      obtain rfl := Option.some.inj hab
      rw [add_plain2]
      have hc := hy.cell b of rfl j hj
      rw [hc, ← hu, ints_getElem?]
      simp [nth, List.getD, show j < ys.length by have := hy.len; omega]
    · intro v' w' h2 h3 _
      have e : ints .u8 (xs ++ ys) = ints .u8 xs ++ ints .u8 ys := by simp [ints]
      rw [e] at h
      exact h v' w' h2 h3
set_option maxRecDepth 100000 in
set_option maxHeartbeats 1000000 in
theorem more_calls (w : World) (g : Nat) (A : Option Addr) (n c : Nat) (bs : List Int) (hb : Blk w g 93 [.slice none 0 0, .int .i64 0]) (hr : RI .u8 w A n bs) (hnil : A = none → n = 0 ∧ c = 0)
    (hbyte : ∀ j, 0 ≤ nth bs j ∧ nth bs j ≤ 255) (hn : n ≤ 4000000000) :
    Calls Tryd.prog 74 #[.pointer (some ⟨g, 0, none⟩), .slice A n c] w fun e w' => ∃ A' c', e = .returned (.int .i64 0) ∧ Rdr w' g A' c' bs 0 ∧ (∀ a, A' = some a → g < a.block ∧ a.block < w'.heap.size) ∧ Below g w w' := by
  have h0 := hb.cell 0
  simp only [List.getElem?_cons_zero] at h0
  have hf := hb.frozen 0
  have hlt := hb.lt
  have HB := Lib.hid hb
  have HR := Lib.hid hr
  have HN := Lib.hid hnil
  have HBY := Lib.hid hbyte
  clear hb hr hnil hbyte
  go_enter Tryd.func74, Tryd.ntmps74
  go_wp2_with (at_builtin; refine app_bytes rfl (.tmp 11) (.tmp 12) rfl (g + 1) _ _ [] rfl (World.ownsRow_nil _ _ _ _) A n c bs rfl HR.out HN.out (by omega) hlt ?_)
  intro v1 w1 h1 hg1
  have hb1 : Blk w1 g 93 [.slice none 0 0, .int .i64 0] := (hg1.block g hlt (by simp [Value.ownBlock])).trans HB.out
  have c0 := hb1.cell 0
  simp only [List.getElem?_cons_zero] at c0
  have f0 := hb1.frozen 0
  obtain ⟨A1, c1, rfl, hri, hcap, hblk⟩ := own_ri h1
  have HB1 := Lib.hid hb1
  have HRI := Lib.hid hri
  have HBK := Lib.hid hblk
  have HG := Lib.hid hg1
  clear hb1 hri hblk hg1 h1
  go_wp2_with fail
  go_ret
  have hl := HR.out.len
  refine ⟨A1, c1, rfl, ⟨?_, ?_, ?_, by simp, HBY.out, by omega⟩, fun a ha => ⟨(HBK.out a ha).1, by have := (HBK.out a ha).2.1; simpa [World.setCell] using this⟩, ?_⟩
  · rw [hl]; exact HB1.out.set 0 _
  · rw [hl]
    exact HRI.out.keeps ((Keeps.refl [g] w1).setCell (Or.inl (by simp)) _) (fun a ha => by have := (HBK.out a ha).1; simp; omega)
  · intro a ha; have := (HBK.out a ha).1; simp; omega
  · exact ((Below.refl g w).grown HG.out (Nat.le_of_lt hlt) (fun k hk => by simp [Value.ownBlock] at hk)).setCell (p := ⟨g, 0, none⟩) (Nat.le_refl g) _
set_option maxRecDepth 100000 in
set_option maxHeartbeats 1000000 in
theorem newReader_calls (w : World) (A : Option Addr) (n c : Nat) (bs : List Int) (hr : RI .u8 w A n bs) (hnil : A = none → n = 0 ∧ c = 0)
    (hbyte : ∀ j, 0 ≤ nth bs j ∧ nth bs j ≤ 255) (hn : n ≤ 4000000000) :
    Calls Tryd.prog 47 #[.slice A n c] w fun e w' => ∃ g A' c', e = .returned (.pointer (some ⟨g, 0, none⟩)) ∧ Rdr w' g A' c' bs 0 ∧ w.heap.size ≤ g ∧ (∀ a, A' = some a → g < a.block ∧ a.block < w'.heap.size) ∧ Below w.heap.size w w' := by
  have HR := Lib.hid hr
  have HN := Lib.hid hnil
  have HBY := Lib.hid hbyte
  clear hr hnil hbyte
  go_enter Tryd.func47, Tryd.ntmps47
  go_wp2_with fail
  refine (more_calls _ _ _ _ _ bs (blk_new w 93 [.slice none 0 0, .int .i64 0]) (HR.out.keeps ((Keeps.refl _ _).alloc _) (off_nil _)) HN.out HBY.out hn).mono ?_
  rintro e w1 ⟨A1, c1, rfl, hrd, hab, hb⟩
  have HRD := Lib.hid hrd
  have HB := Lib.hid hb
  have HAB := Lib.hid hab
  clear hrd hb hab
  go_wp2_with fail
  go_ret
  exact ⟨_, _, _, rfl, HRD.out, Nat.le_refl _, HAB.out, ((Below.refl _ w).alloc (Nat.le_refl _) _).trans HB.out⟩
end Go.Proofs.YtcblibefmclloaaDoor

set_option linter.unusedVariables false
set_option linter.unusedSimpArgs false
namespace Go.Proofs.YtcblibefmclloaaDoor
open Go.RowKit
/-- A block of one cell, not frozen. -/
structure Box (w : World) (b : Nat) (v : Value) : Prop where
  cell : w.cell? ⟨b, 0, none⟩ = some v
  free : w.frozen? ⟨b, 0, none⟩ = false
theorem Box.lt {w : World} {b : Nat} {v : Value} (h : Box w b v) : b < w.heap.size := World.block_lt_of_cell? _ _ h.cell
theorem Box.keeps {S : List Nat} {w w' : World} {b : Nat} {v : Value} (h : Box w b v) (hk : Keeps S w w') (hn : b ∉ S) : Box w' b v :=
  ⟨hk.cell (p := ⟨b, 0, none⟩) hn h.cell, (hk.frozen (p := ⟨b, 0, none⟩) h.lt hn).trans h.free⟩
theorem Box.set {w : World} {b : Nat} {v : Value} (h : Box w b v) (u : Value) : Box (w.setCell ⟨b, 0, none⟩ u) b u :=
  ⟨World.cell?_setCell_same' _ _ _ (by rw [h.cell]; rfl), by simpa using h.free⟩
/-- What the head's reader holds: the reader, its box, the box of what is wrong. -/
structure Hd (w : World) (rb eb g : Nat) (A : Option Addr) (c : Nat) (bs : List Int) (p : Nat) (e : Int) : Prop where
  rd : Rdr w g A c bs p
  bxr : Box w rb (.pointer (some ⟨g, 0, none⟩))
  bxe : Box w eb (.int .i64 e)
  hgr : g < rb
  hre : rb < eb
  ha : ∀ a, A = some a → a.block < rb
theorem Hd.offE {w : World} {rb eb g : Nat} {A : Option Addr} {c : Nat} {bs : List Int} {p : Nat} {e : Int} (h : Hd w rb eb g A c bs p e) : Off [eb] A := by
  intro a ha; have := h.ha a ha; have := h.hre; simp; omega
theorem Hd.take {w w' : World} {rb eb g : Nat} {A : Option Addr} {c : Nat} {bs : List Int} {p q : Nat} {e : Int} (h : Hd w rb eb g A c bs p e) (hr : Rdr w' g A c bs q) (hk : Keeps [g] w w') : Hd w' rb eb g A c bs q e :=
  ⟨hr, h.bxr.keeps hk (by have := h.hgr; simp; omega), h.bxe.keeps hk (by have := h.hgr; have := h.hre; simp; omega), h.hgr, h.hre, h.ha⟩
theorem Hd.keeps {S : List Nat} {w w' : World} {rb eb g : Nat} {A : Option Addr} {c : Nat} {bs : List Int} {p : Nat} {e : Int} (h : Hd w rb eb g A c bs p e) (hk : Keeps S w w') (h1 : g ∉ S) (h2 : rb ∉ S) (h3 : eb ∉ S) (h4 : Off S A) : Hd w' rb eb g A c bs p e :=
  ⟨h.rd.keeps hk h1 h4, h.bxr.keeps hk h2, h.bxe.keeps hk h3, h.hgr, h.hre, h.ha⟩
theorem Hd.set {w : World} {rb eb g : Nat} {A : Option Addr} {c : Nat} {bs : List Int} {p : Nat} {e : Int} (h : Hd w rb eb g A c bs p e) (e' : Int) : Hd (w.setCell ⟨eb, 0, none⟩ (.int .i64 e')) rb eb g A c bs p e' :=
  have hk : Keeps [eb] w (w.setCell ⟨eb, 0, none⟩ (.int .i64 e')) := (Keeps.refl _ _).setCell (Or.inl (by simp)) _
  ⟨h.rd.keeps hk (by have := h.hgr; have := h.hre; simp; omega) h.offE, h.bxr.keeps hk (by have := h.hre; simp; omega), h.bxe.set _, h.hgr, h.hre, h.ha⟩
set_option maxHeartbeats 400000 in
theorem read1_ok (w : World) (rb eb g : Nat) (A : Option Addr) (c : Nat) (bs : List Int) (p n : Nat) (e : Int) (h : Hd w rb eb g A c bs p e) (hn : n ≤ 32) (hf : p + n ≤ 8 * bs.length) :
    Calls Tryd.prog 79 #[.int .i64 n, .pointer (some ⟨rb, 0, none⟩), .pointer (some ⟨eb, 0, none⟩)] w fun r w' => r = .returned (.int .i64 (numB bs p n)) ∧ Hd w' rb eb g A c bs (p + n) e ∧ Keeps [g, eb] w w' := by
  have c1 := h.bxr.cell
  have H := Lib.hid h
  clear h
  have hb := numB_lt bs p n
  have hb2 := pow32 n hn
  have e1 : IntKind.i64.wrap (numB bs p n) = numB bs p n := IntWalk.i64_in _ (by omega)
  go_enter Tryd.func79, Tryd.ntmps79
  go_wp2_with fail
  refine (take_calls _ _ _ _ _ _ _ H.out.rd hn hf).mono ?_
  rintro r w' ⟨rfl, hr2, hk⟩
  have h2 := H.out.take hr2 hk
  have c2 := h2.bxe.cell
  have f2 := h2.bxe.free
  have H2 := Lib.hid h2
  have HK := Lib.hid hk
  clear hr2 hk c1 h2 H
  by_cases he : e = 0
  · subst he
    go_wp2_with fail
    go_ret
    exact ⟨rfl, H2.out.set 0, (HK.out.mono (by simp)).setCell (Or.inl (by simp)) _⟩
  · have e2 : (e == 0) = false := by simpa using he
    go_wp2_with fail
    go_ret
    exact ⟨rfl, H2.out, HK.out.mono (by simp)⟩
set_option maxHeartbeats 400000 in
theorem read1_end (w : World) (rb eb g : Nat) (A : Option Addr) (c : Nat) (bs : List Int) (p n : Nat) (e : Int) (h : Hd w rb eb g A c bs p e) (hn : n ≤ 32) (hf : 8 * bs.length < p + n) :
    Calls Tryd.prog 79 #[.int .i64 n, .pointer (some ⟨rb, 0, none⟩), .pointer (some ⟨eb, 0, none⟩)] w fun r w' => r = .returned (.int .i64 0) ∧ Hd w' rb eb g A c bs p (if e = 0 then 10 else e) ∧ Keeps [g, eb] w w' := by
  have c1 := h.bxr.cell
  have H := Lib.hid h
  clear h
  go_enter Tryd.func79, Tryd.ntmps79
  go_wp2_with fail
  refine (take_end _ _ _ _ _ _ _ H.out.rd hn hf).mono ?_
  rintro r w' ⟨rfl, hk⟩
  have h2 := H.out.keeps hk.keeps (S := []) (by simp) (by simp) (by simp) (off_nil _)
  have c2 := h2.bxe.cell
  have f2 := h2.bxe.free
  have H2 := Lib.hid h2
  have HK := Lib.hid hk
  clear hk c1 h2 H
  by_cases he : e = 0
  · subst he
    go_wp2_with fail
    go_ret
    exact ⟨rfl, by first | exact H2.out.set 10 | (rw [if_pos rfl]; exact H2.out.set 10), (HK.out.keeps).setCell (Or.inl (by simp)) _⟩
  · have e2 : (e == 0) = false := by simpa using he
    go_wp2_with fail
    go_ret
    exact ⟨rfl, by first | exact H2.out | (rw [if_neg he]; exact H2.out), HK.out.keeps⟩
end Go.Proofs.YtcblibefmclloaaDoor

set_option linter.unusedVariables false
set_option linter.unusedSimpArgs false
namespace Go.Proofs.YtcblibefmclloaaDoor
open Go.RowKit
set_option maxRecDepth 100000 in
set_option maxHeartbeats 1000000 in
theorem read_bad (w : World) (g : Nat) (A : Option Addr) (c : Nat) (bs : List Int) (p : Nat) (hr : Rdr w g A c bs p) (ha : ∀ a, A = some a → a.block < w.heap.size) (hf : p + 14 ≤ 8 * bs.length) (hbad : 29 < numB bs p 5 ∨ 29 < numB bs (p + 5) 5) :
    Calls Tryd.prog 58 #[.pointer (some ⟨g, 0, none⟩)] w fun r w' => r = .returned (.tuple #[.slice none 0 0, .slice none 0 0, .int .i64 40]) ∧ Rdr w' g A c bs (p + 14) ∧ Keeps [g] w w' := by
  have hg := hr.lt
  have H0 : Hid (Hd ((w.alloc (.cells #[.pointer (some ⟨g, 0, none⟩)] 38)).alloc (.cells #[.int .i64 0] 26)) w.heap.size (w.heap.size + 1) g A c bs p 0) := by
    have k1 : Keeps [] w ((w.alloc (.cells #[.pointer (some ⟨g, 0, none⟩)] 38)).alloc (.cells #[.int .i64 0] 26)) := ((Keeps.refl [] w).alloc _).alloc _
    exact ⟨hr.dr k1, ⟨by simp, by simp⟩, ⟨by simp, by simp⟩, hg, by omega, ha⟩
  have K0 : Hid (Keeps [g, w.heap.size + 1] w ((w.alloc (.cells #[.pointer (some ⟨g, 0, none⟩)] 38)).alloc (.cells #[.int .i64 0] 26))) := ((Keeps.refl _ w).alloc _).alloc _
  have b1 := numB_lt bs p 5
  have b2 := numB_lt bs (p + 5) 5
  have b3 := numB_lt bs (p + 10) 4
  have p5 : (2 : Int) ^ 5 = 32 := rfl
  have p4 : (2 : Int) ^ 4 = 16 := rfl
  rw [p5] at b1 b2
  rw [p4] at b3
  clear hr ha p5 p4
  go_enter Tryd.func58, Tryd.ntmps58
  go_wp2_with fail
  refine (read1_ok _ _ _ g A c bs p 5 0 H0.out (by omega) (by omega)).mono ?_
  rintro r w1 ⟨rfl, h1, k1⟩
  have H1 := Lib.hid h1
  have K1 := Lib.hid (K0.out.trans k1)
  clear h1 k1 H0 K0
  go_wp2_with fail
  refine (read1_ok _ _ _ g A c bs (p + 5) 5 0 H1.out (by omega) (by omega)).mono ?_
  rintro r w2 ⟨rfl, h1, k1⟩
  have H2 := Lib.hid h1
  have K2 := Lib.hid (K1.out.then k1 (by simp))
  clear h1 k1 H1 K1
  go_wp2_with fail
  refine (read1_ok _ _ _ g A c bs (p + 5 + 5) 4 0 H2.out (by omega) (by omega)).mono ?_
  rintro r w3 ⟨rfl, h1, k1⟩
  have ce := h1.bxe.cell
  have fe := h1.bxe.free
  have H3 := Lib.hid h1
  have K3 := Lib.hid (K2.out.then k1 (by simp))
  clear h1 k1 H2 K2
  by_cases hb1 : 29 < numB bs p 5
  · go_wp2_with fail
    have H4 := Lib.hid (H3.out.set 40)
    have c4 := H4.out.bxe.cell
    refine bodyPost_ret (v := .tuple #[.slice none 0 0, .slice none 0 0, .int .i64 40]) (by simp [results, Tryd.results58, go_sem, c4]) rfl ⟨rfl, H4.out.rd, ?_⟩
    exact ⟨K3.out.os, K3.out.tape, K3.out.output, by simpa [World.setCell] using K3.out.size, fun k hk hn => ((K3.out.setCell (p := ⟨w.heap.size + 1, 0, none⟩) (Or.inl (by simp)) (.int .i64 40)).block k hk (by simp at hn ⊢; omega))⟩
  · have hb2 : 29 < numB bs (p + 5) 5 := by omega
    go_wp2_with fail
    have H4 := Lib.hid (H3.out.set 40)
    have c4 := H4.out.bxe.cell
    refine bodyPost_ret (v := .tuple #[.slice none 0 0, .slice none 0 0, .int .i64 40]) (by simp [results, Tryd.results58, go_sem, c4]) rfl ⟨rfl, H4.out.rd, ?_⟩
    exact ⟨K3.out.os, K3.out.tape, K3.out.output, by simpa [World.setCell] using K3.out.size, fun k hk hn => ((K3.out.setCell (p := ⟨w.heap.size + 1, 0, none⟩) (Or.inl (by simp)) (.int .i64 40)).block k hk (by simp at hn ⊢; omega))⟩
end Go.Proofs.YtcblibefmclloaaDoor

/- Lists of code lengths: plain numbers. -/
set_option linter.unusedVariables false
set_option linter.unusedSimpArgs false
namespace Go.Proofs.YtcblibefmclloaaDoor
/-- May a length be? -/
def okLen (x : Int) : Bool := decide (0 ≤ x) && decide (x ≤ 15)
/-- What a length takes of all codes, in parts of 2^15. -/
def part (x : Int) : Nat := if 0 < x then 2 ^ (15 - x).toNat else 0
def usedF (l : List Int) : Nat := (l.filter fun x => decide (0 < x)).length
def measF (l : List Int) : Nat := (l.map part).sum
/-- What is wrong with a list of lengths. -/
def checkF (l : List Int) : Int :=
  if l.length < 1 ∨ 288 < l.length then 1
  else if l.all okLen = false then 1
  else if 32768 < measF l then 30
  else if measF l = 32768 then 0
  else if usedF l = 1 ∧ measF l = 16384 then 0
  else 31
theorem part_le (x : Int) (h : okLen x = true) : part x ≤ 16384 := by
  unfold okLen at h
  simp only [Bool.and_eq_true, decide_eq_true_eq] at h
  unfold part
  split
  · have : 2 ^ (15 - x).toNat ≤ 2 ^ 14 := Nat.pow_le_pow_right (by decide) (by omega)
    exact this
  · omega
theorem take_snoc' (l : List Int) (k : Nat) (h : k < l.length) : l.take (k + 1) = l.take k ++ [nth l k] := by
  rw [List.take_succ_eq_append_getElem h, nth_lt h]
theorem usedF_snoc (l : List Int) (k : Nat) (h : k < l.length) : usedF (l.take (k + 1)) = usedF (l.take k) + if 0 < nth l k then 1 else 0 := by
  rw [take_snoc' l k h]
  unfold usedF
  rw [List.filter_append, List.length_append]
  by_cases h0 : 0 < nth l k <;> simp [List.filter_cons, h0]
theorem measF_snoc (l : List Int) (k : Nat) (h : k < l.length) : measF (l.take (k + 1)) = measF (l.take k) + part (nth l k) := by
  rw [take_snoc' l k h]; simp [measF]
theorem all_snoc (l : List Int) (k : Nat) (h : k < l.length) : (l.take (k + 1)).all okLen = ((l.take k).all okLen && okLen (nth l k)) := by
  rw [take_snoc' l k h]; simp
theorem usedF_le (l : List Int) : usedF l ≤ l.length := List.length_filter_le _ _
theorem measF_le (l : List Int) (h : l.all okLen = true) : measF l ≤ l.length * 16384 := by
  induction l with
  | nil => simp [measF]
  | cons x r ih =>
    simp only [List.all_cons, Bool.and_eq_true] at h
    have h1 := part_le x h.1
    have h2 := ih h.2
    simp only [measF, List.map_cons, List.sum_cons, List.length_cons] at *
    omega
theorem all_hit (l : List Int) (k : Nat) (h : k < l.length) (hb : okLen (nth l k) = false) : l.all okLen = false := by
  rw [List.all_eq_false]
  rw [nth_lt h] at hb
  exact ⟨_, List.getElem_mem h, by simp [hb]⟩
theorem part_pos (x : Int) (h0 : 0 < x) (h15 : x ≤ 15) : (part x : Int) = 2 ^ (15 - x).toNat := by
  unfold part; rw [if_pos h0]; simp
theorem part_zero (x : Int) (h0 : ¬ 0 < x) : part x = 0 := by unfold part; rw [if_neg h0]
theorem check_ok {l : List Int} (h : checkF l = 0) : l.length ≤ 288 ∧ l.all okLen = true := by
  unfold checkF at h
  split at h
  · cases h
  · rename_i h1
    split at h
    · cases h
    · rename_i h2
      exact ⟨by omega, by simpa using h2⟩
end Go.Proofs.YtcblibefmclloaaDoor

/- Limited lengths: plain lists. -/
set_option linter.unusedVariables false
set_option linter.unusedSimpArgs false
namespace Go.Proofs.YtcblibefmclloaaDoor
/-! Stable sorting of whatever has a weight. -/
section
variable {α : Type} (f : α → Int)
def Srt (l : List α) : Prop := l.Pairwise (fun p q => f p ≤ f q)
def Sme (r l : List α) : Prop := r.Perm l ∧ ∀ v, r.filter (fun p => decide (f p = v)) = l.filter (fun p => decide (f p = v))
theorem Srt_eq {r : List α} : ∀ {l : List α}, Srt f r → Srt f l → Sme f r l → r = l := by
  induction r with
  | nil => intro l _ _ h; exact (List.length_eq_zero_iff.1 h.1.length_eq.symm).symm
  | cons p r ih =>
    intro l hr hl h
    match l, h, hl with
    | [], h, _ => have := h.1.length_eq; simp at this
    | q :: l, h, hl =>
      have hw : f p = f q := by
        have h1 : p ∈ q :: l := h.1.mem_iff.1 (List.mem_cons_self ..)
        have h2 : q ∈ p :: r := h.1.mem_iff.2 (List.mem_cons_self ..)
        have a1 : f q ≤ f p := by
          rcases List.mem_cons.1 h1 with rfl | h1
          · exact Int.le_refl _
          · exact (List.pairwise_cons.1 hl).1 p h1
        have a2 : f p ≤ f q := by
          rcases List.mem_cons.1 h2 with rfl | h2
          · exact Int.le_refl _
          · exact (List.pairwise_cons.1 hr).1 q h2
        omega
      have hv := h.2 (f p)
      rw [List.filter_cons_of_pos (by simp), List.filter_cons_of_pos (by simp [hw])] at hv
      injection hv with e1 e2
      subst e1
      refine congrArg (p :: ·) (ih (List.pairwise_cons.1 hr).2 (List.pairwise_cons.1 hl).2 ⟨(List.perm_cons p).1 h.1, fun v => ?_⟩)
      have hv := h.2 v
      by_cases e : f p = v
      · rw [List.filter_cons_of_pos (by simpa using e), List.filter_cons_of_pos (by simpa using e)] at hv
        injection hv
      · rw [List.filter_cons_of_neg (by simpa using e), List.filter_cons_of_neg (by simpa using e)] at hv
        exact hv
def insW (p : α) : List α → List α
  | [] => [p]
  | q :: r => if f q ≤ f p then q :: insW p r else p :: q :: r
/-- Sorted by weight, those of one weight in their order. -/
def sortW : List α → List α → List α
  | [], acc => acc
  | p :: r, acc => sortW r (insW f p acc)
theorem insW_mem (p x : α) (l : List α) : x ∈ insW f p l ↔ x = p ∨ x ∈ l := by
  induction l with
  | nil => simp [insW]
  | cons q r ih =>
    unfold insW
    split
    · rw [List.mem_cons, ih, List.mem_cons]
      constructor
      · rintro (h | h | h)
        · exact Or.inr (Or.inl h)
        · exact Or.inl h
        · exact Or.inr (Or.inr h)
      · rintro (h | h | h)
        · exact Or.inr (Or.inl h)
        · exact Or.inl h
        · exact Or.inr (Or.inr h)
    · rw [List.mem_cons]
theorem insW_srt (p : α) (l : List α) (h : Srt f l) : Srt f (insW f p l) := by
  induction l with
  | nil => exact List.pairwise_singleton _ _
  | cons q r ih =>
    unfold insW
    split
    · rename_i hq
      refine List.pairwise_cons.2 ⟨fun x hx => ?_, ih (List.pairwise_cons.1 h).2⟩
      rcases (insW_mem f p x r).1 hx with rfl | hx
      · exact hq
      · exact (List.pairwise_cons.1 h).1 x hx
    · rename_i hq
      refine List.pairwise_cons.2 ⟨fun x hx => ?_, h⟩
      rcases List.mem_cons.1 hx with rfl | hx
      · omega
      · have := (List.pairwise_cons.1 h).1 x hx; omega
theorem insW_sme (p : α) (l : List α) (h : Srt f l) : Sme f (insW f p l) (l ++ [p]) := by
  induction l with
  | nil => exact ⟨List.Perm.refl _, fun _ => rfl⟩
  | cons q r ih =>
    unfold insW
    split
    · have := ih (List.pairwise_cons.1 h).2
      refine ⟨(List.perm_cons q).2 this.1, fun v => ?_⟩
      rw [List.cons_append]
      by_cases e : f q = v
      · rw [List.filter_cons_of_pos (by simpa using e), List.filter_cons_of_pos (by simpa using e), this.2]
      · rw [List.filter_cons_of_neg (by simpa using e), List.filter_cons_of_neg (by simpa using e), this.2]
    · rename_i hq
      refine ⟨(List.perm_append_singleton p (q :: r)).symm, fun v => ?_⟩
      rw [List.filter_append]
      by_cases e : f p = v
      · have : List.filter (fun x => decide (f x = v)) (q :: r) = [] := by
          rw [List.filter_eq_nil_iff]
          intro x hx
          have : f q ≤ f x := by
            rcases List.mem_cons.1 hx with rfl | hx
            · exact Int.le_refl _
            · exact (List.pairwise_cons.1 h).1 x hx
          simp; omega
        rw [List.filter_cons_of_pos (by simpa using e), this]; simp [e]
      · rw [List.filter_cons_of_neg (by simpa using e), List.filter_cons_of_neg (a := p) (by simpa using e)]; simp
theorem sortW_spec (l : List α) : ∀ acc, Srt f acc → Srt f (sortW f l acc) ∧ Sme f (sortW f l acc) (acc ++ l) := by
  induction l with
  | nil => intro acc h; exact ⟨h, by simp [sortW]; exact ⟨List.Perm.refl _, fun _ => rfl⟩⟩
  | cons p r ih =>
    intro acc h
    have h1 := insW_srt f p acc h
    have h2 := insW_sme f p acc h
    obtain ⟨h3, h4⟩ := ih _ h1
    refine ⟨h3, h4.1.trans ?_, fun v => (h4.2 v).trans ?_⟩
    · have := h2.1.append_right r
      simpa using this
    · have := h2.2 v
      rw [List.filter_append, this, ← List.filter_append]; simp
theorem sortW_srt (l : List α) : Srt f (sortW f l []) := (sortW_spec f l [] List.Pairwise.nil).1
theorem sortW_sme (l : List α) : Sme f (sortW f l []) l := by have := (sortW_spec f l [] List.Pairwise.nil).2; simpa using this
theorem sortW_eq {r l : List α} (h1 : Srt f r) (h2 : Sme f r l) : r = sortW f l [] :=
  Srt_eq f h1 (sortW_srt f l) ⟨h2.1.trans (sortW_sme f l).1.symm, fun v => (h2.2 v).trans ((sortW_sme f l).2 v).symm⟩
end
/-- A weight, and symbols. -/
abbrev PP : Type := Int × List Int
def sortP (l : List PP) : List PP := sortW Prod.fst l []
theorem sortP_perm (l : List PP) : (sortP l).Perm l := (sortW_sme Prod.fst l).1
theorem sortP_len (l : List PP) : (sortP l).length = l.length := (sortP_perm l).length_eq
/-- The symbols that come. -/
def leavesF : List Int → Nat → List PP
  | [], _ => []
  | n :: r, i => if 0 < n then (n, [(i : Int)]) :: leavesF r (i + 1) else leavesF r (i + 1)
theorem leavesF_snoc (l : List Int) (x : Int) : ∀ i, leavesF (l ++ [x]) i = leavesF l i ++ if 0 < x then [(x, [((i + l.length : Nat) : Int)])] else [] := by
  induction l with
  | nil => intro i; simp only [List.nil_append, leavesF, List.length_nil, Nat.add_zero]
  | cons n r ih =>
    intro i
    rw [List.cons_append, leavesF, leavesF, ih (i + 1), List.length_cons, show i + 1 + r.length = i + (r.length + 1) by omega]
    split <;> rfl
/-- Two by two as one. -/
def pairsF : List PP → List PP
  | a :: b :: r => (a.1 + b.1, a.2 ++ b.2) :: pairsF r
  | _ => []
def levelF (lv : List PP) : Nat → List PP
  | 0 => []
  | t + 1 => sortP (lv ++ pairsF (levelF lv t))
/-- How often each number below n comes. -/
def cntF (n : Nat) (S : List Int) : List Int := (List.range n).map fun (i : Nat) => (S.count (i : Int) : Int)
def limLens (cs : List Int) (most : Nat) : List Int :=
  cntF cs.length (if (leavesF cs 0).length < 2 then (leavesF cs 0).flatMap Prod.snd else ((levelF (sortP (leavesF cs 0)) most).take (2 * (leavesF cs 0).length - 2)).flatMap Prod.snd)
def badCount (x : Int) : Bool := decide (x < 0) || decide (1000000000000 < x)
def limF (cs : List Int) (most : Int) : List Int × Int :=
  if cs.length = 0 ∨ 288 < cs.length ∨ most < 1 ∨ 15 < most then ([], 1)
  else if cs.any badCount then ([], 1)
  else if 2 ^ most.toNat < (leavesF cs 0).length then ([], 30)
  else (limLens cs most.toNat, 0)
/-! Sums. -/
def sumW (l : List PP) : Int := (l.map Prod.fst).sum
def sumS (l : List PP) : Nat := (l.map fun p => p.2.length).sum
def posP (l : List PP) : Prop := ∀ p ∈ l, 0 < p.1 ∧ p.2 ≠ []
theorem sumW_app (a b : List PP) : sumW (a ++ b) = sumW a + sumW b := by simp [sumW]
theorem sumS_app (a b : List PP) : sumS (a ++ b) = sumS a + sumS b := by simp [sumS]
theorem sumW_perm {a b : List PP} (h : a.Perm b) : sumW a = sumW b := by
  unfold sumW
  have := h.map Prod.fst
  clear h
  generalize a.map Prod.fst = x at *
  generalize b.map Prod.fst = y at *
  induction this with
  | nil => rfl
  | cons _ _ ih => simp [ih]
  | swap x y l => simp; omega
  | trans _ _ h1 h2 => exact h1.trans h2
theorem sumS_perm {a b : List PP} (h : a.Perm b) : sumS a = sumS b := List.Perm.sum_nat (h.map fun (p : PP) => p.2.length)
theorem posP_app {a b : List PP} (ha : posP a) (hb : posP b) : posP (a ++ b) := fun p hp => by
  rcases List.mem_append.1 hp with h | h
  · exact ha p h
  · exact hb p h
theorem posP_perm {a b : List PP} (h : a.Perm b) (hb : posP b) : posP a := fun p hp => hb p (h.mem_iff.1 hp)
theorem pairsF_short {l : List PP} (hl : ∀ a b r, l = a :: b :: r → False) : pairsF l = [] := by
  match l, hl with
  | [], _ => simp [pairsF]
  | [x], _ => simp [pairsF]
  | a :: b :: r, h => exact absurd rfl (h a b r)
theorem pairsF_len (l : List PP) : (pairsF l).length = l.length / 2 := by
  induction l using pairsF.induct with
  | case1 a b r ih => rw [pairsF, List.length_cons, ih]; simp only [List.length_cons]; omega
  | case2 l h =>
    match l, h with
    | [], _ => simp [pairsF]
    | [x], _ => simp [pairsF]
    | a :: b :: r, h => exact absurd rfl (h a b r)
theorem pairsF_pos (l : List PP) (h : posP l) : posP (pairsF l) := by
  induction l using pairsF.induct with
  | case1 a b r ih =>
    intro p hp
    rw [pairsF] at hp
    rcases List.mem_cons.1 hp with rfl | hp
    · have h1 := h a (by simp); have h2 := h b (by simp)
      exact ⟨by show 0 < a.1 + b.1; omega, by show a.2 ++ b.2 ≠ []; simp [h1.2]⟩
    · exact ih (fun q hq => h q (by simp [hq])) p hp
  | case2 l hl => intro p hp; rw [pairsF_short hl] at hp; cases hp
theorem sumW_nonneg (l : List PP) (h : posP l) : 0 ≤ sumW l := by
  induction l with
  | nil => simp [sumW]
  | cons a r ih =>
    have := ih (fun q hq => h q (by simp [hq]))
    have := (h a (by simp)).1
    simp only [sumW, List.map_cons, List.sum_cons] at *
    omega
theorem pairsF_sum (l : List PP) (h : posP l) : sumW (pairsF l) ≤ sumW l ∧ sumS (pairsF l) ≤ sumS l := by
  induction l using pairsF.induct with
  | case1 a b r ih =>
    have := ih (fun q hq => h q (by simp [hq]))
    rw [pairsF]
    simp only [sumW, sumS, List.map_cons, List.sum_cons, List.length_append] at *
    omega
  | case2 l hl =>
    have e : pairsF l = [] := by
      match l, hl with
      | [], _ => simp [pairsF]
      | [x], _ => simp [pairsF]
      | a :: b :: r, h => exact absurd rfl (h a b r)
    rw [e]
    exact ⟨sumW_nonneg l h, Nat.zero_le _⟩
theorem level_bd (lv : List PP) (h : posP lv) (t : Nat) : posP (levelF lv t) ∧ sumW (levelF lv t) ≤ t * sumW lv ∧ sumS (levelF lv t) ≤ t * sumS lv ∧ (levelF lv t).length ≤ 2 * lv.length := by
  induction t with
  | zero => exact ⟨(by intro p hp; cases hp), by simp [levelF, sumW], by simp [levelF, sumS], by simp [levelF]⟩
  | succ t ih =>
    obtain ⟨h1, h2, h3, h4⟩ := ih
    have hp := sortP_perm (lv ++ pairsF (levelF lv t))
    have hq := pairsF_sum _ h1
    refine ⟨posP_perm hp (posP_app h (pairsF_pos _ h1)), ?_, ?_, ?_⟩
    · rw [levelF, sumW_perm hp, sumW_app]
      have : ((t + 1 : Nat) : Int) * sumW lv = t * sumW lv + sumW lv := by rw [Int.natCast_add, Int.add_mul]; simp
      omega
    · rw [levelF, sumS_perm hp, sumS_app, Nat.add_mul, Nat.one_mul]; omega
    · rw [levelF, sortP_len, List.length_append, pairsF_len]; omega
theorem le_sumW {l : List PP} (h : posP l) {p : PP} (hp : p ∈ l) : p.1 ≤ sumW l := by
  induction l with
  | nil => cases hp
  | cons a r ih =>
    have hr : posP r := fun q hq => h q (by simp [hq])
    have h0 := sumW_nonneg r hr
    have ha := (h a (by simp)).1
    have e : sumW (a :: r) = a.1 + sumW r := by simp [sumW]
    rcases List.mem_cons.1 hp with rfl | hp
    · omega
    · have := ih hr hp; omega
theorem le_sumS {l : List PP} {p : PP} (hp : p ∈ l) : p.2.length ≤ sumS l := by
  induction l with
  | nil => cases hp
  | cons a r ih =>
    have e : sumS (a :: r) = a.2.length + sumS r := by simp [sumS]
    rcases List.mem_cons.1 hp with rfl | hp
    · omega
    · have := ih hp; omega
theorem leaves_bd (cs : List Int) (h : cs.any badCount = false) : ∀ i, posP (leavesF cs i) ∧ sumW (leavesF cs i) ≤ cs.length * 1000000000000 ∧ sumS (leavesF cs i) = (leavesF cs i).length ∧ (leavesF cs i).length ≤ cs.length ∧ ∀ p ∈ leavesF cs i, ∀ s ∈ p.2, (i : Int) ≤ s ∧ s < ((i + cs.length : Nat) : Int) := by
  induction cs with
  | nil => intro i; exact ⟨(by intro p hp; cases hp), by simp [leavesF, sumW], by simp [leavesF, sumS], by simp [leavesF], (by intro p hp; cases hp)⟩
  | cons x r ih =>
    intro i
    rw [List.any_cons, Bool.or_eq_false_iff] at h
    obtain ⟨h1, h2, h3, h4, h5⟩ := ih h.2 (i + 1)
    have hx := h.1
    unfold badCount at hx
    rw [Bool.or_eq_false_iff, decide_eq_false_iff_not, decide_eq_false_iff_not] at hx
    rw [leavesF]
    split
    · rename_i hx0
      refine ⟨?_, ?_, ?_, ?_, ?_⟩
      · intro p hp
        rcases List.mem_cons.1 hp with rfl | hp
        · exact ⟨hx0, by simp⟩
        · exact h1 p hp
      · simp only [sumW, List.map_cons, List.sum_cons, List.length_cons] at *; omega
      · simp only [sumS, List.map_cons, List.sum_cons, List.length_cons, List.length_nil] at *; omega
      · simp only [List.length_cons]; omega
      · intro p hp s hs
        rcases List.mem_cons.1 hp with rfl | hp
        · rw [List.mem_singleton.1 hs]; simp only [List.length_cons]; omega
        · have := h5 p hp s hs; simp only [List.length_cons]; omega
    · refine ⟨h1, ?_, h3, ?_, ?_⟩
      · simp only [List.length_cons] at *; omega
      · simp only [List.length_cons]; omega
      · intro p hp s hs
        have := h5 p hp s hs; simp only [List.length_cons]; omega
/-- All symbols of packs. -/
def inR (n : Nat) (l : List PP) : Prop := ∀ p ∈ l, ∀ s ∈ p.2, 0 ≤ s ∧ s < (n : Int)
theorem pairsF_inR {n : Nat} (l : List PP) (h : inR n l) : inR n (pairsF l) := by
  induction l using pairsF.induct with
  | case1 a b r ih =>
    intro p hp s hs
    rw [pairsF] at hp
    rcases List.mem_cons.1 hp with rfl | hp
    · rcases List.mem_append.1 hs with hs | hs
      · exact h a (by simp) s hs
      · exact h b (by simp) s hs
    · exact ih (fun q hq => h q (by simp [hq])) p hp s hs
  | case2 l hl => intro p hp; rw [pairsF_short hl] at hp; cases hp
theorem level_inR {n : Nat} (lv : List PP) (h : inR n lv) : ∀ t, inR n (levelF lv t)
  | 0 => by intro p hp; cases hp
  | t + 1 => by
    intro p hp s hs
    rw [levelF] at hp
    rcases List.mem_append.1 ((sortP_perm _).mem_iff.1 hp) with hp | hp
    · exact h p hp s hs
    · exact pairsF_inR _ (level_inR lv h t) p hp s hs
theorem cntF_len (n : Nat) (S : List Int) : (cntF n S).length = n := by simp [cntF]
theorem cntF_nth (n : Nat) (S : List Int) (i : Nat) (h : i < n) : nth (cntF n S) i = (S.count (i : Int) : Int) := by
  simp [nth, cntF, List.getD, h]
theorem cntF_nil (n : Nat) : cntF n [] = List.replicate n 0 := by
  refine List.ext_getElem (by simp [cntF]) fun i h1 h2 => ?_
  simp [cntF]
theorem cntF_snoc (n : Nat) (S : List Int) (s : Nat) (h : s < n) : cntF n (S ++ [(s : Int)]) = (cntF n S).set s (nth (cntF n S) s + 1) := by
  refine List.ext_getElem (by simp [cntF]) fun i h1 h2 => ?_
  rw [List.getElem_set]
  simp only [cntF, List.getElem_map, List.getElem_range, List.count_append]
  by_cases e : s = i
  · subst e
    rw [if_pos rfl]
    have := cntF_nth n S s h
    unfold cntF at this
    rw [this]; simp
  · have hz : List.count (i : Int) [(s : Int)] = 0 := List.count_eq_zero_of_not_mem (by simp; omega)
    rw [if_neg e, hz, Nat.add_zero]
end Go.Proofs.YtcblibefmclloaaDoor

/- Codes of a list of lengths: plain numbers. -/
set_option linter.unusedVariables false
set_option linter.unusedSimpArgs false
namespace Go.Proofs.YtcblibefmclloaaDoor
/-- How many have each length. -/
def lenCnt (l : List Int) : List Int := cntF 16 (l.filter fun x => decide (0 < x))
/-- The least code of each length. -/
def lowF (cnt : List Int) : Nat → Int
  | 0 => 0
  | n + 1 => 2 * (lowF cnt n + nth cnt n)
def lowL (cnt : List Int) (n : Nat) : List Int := (List.range 16).map fun j => if j < n then lowF cnt j else 0
theorem lenCnt_len (l : List Int) : (lenCnt l).length = 16 := cntF_len _ _
theorem lowL_len (c : List Int) (n : Nat) : (lowL c n).length = 16 := by simp [lowL]
theorem lenCnt_snoc (l : List Int) (k : Nat) (h : k < l.length) (h0 : 0 < nth l k) (h15 : nth l k ≤ 15) : ∃ s : Nat, nth l k = s ∧ s < 16 ∧ lenCnt (l.take (k + 1)) = (lenCnt (l.take k)).set s (nth (lenCnt (l.take k)) s + 1) := by
  obtain ⟨s, hs⟩ := Int.eq_ofNat_of_zero_le (show 0 ≤ nth l k by omega)
  refine ⟨s, hs, by omega, ?_⟩
  unfold lenCnt
  rw [take_snoc' l k h, List.filter_append, List.filter_cons_of_pos (by simpa using h0), List.filter_nil, hs]
  exact cntF_snoc 16 _ s (by omega)
theorem lenCnt_skip (l : List Int) (k : Nat) (h : k < l.length) (h0 : ¬ 0 < nth l k) : lenCnt (l.take (k + 1)) = lenCnt (l.take k) := by
  unfold lenCnt
  rw [take_snoc' l k h, List.filter_append, List.filter_cons_of_neg (by simpa using h0), List.filter_nil, List.append_nil]
theorem lenCnt_bd (l : List Int) (s : Nat) (h : s < 16) : 0 ≤ nth (lenCnt l) s ∧ nth (lenCnt l) s ≤ l.length := by
  unfold lenCnt
  rw [cntF_nth _ _ _ h]
  have h1 := List.count_le_length (a := (s : Int)) (l := l.filter fun x => decide (0 < x))
  have h2 := List.length_filter_le (fun x => decide (0 < x)) l
  omega
theorem lowF_bd (l : List Int) (hl : l.length ≤ 288) (n : Nat) (hn : n ≤ 16) : 0 ≤ lowF (lenCnt l) n ∧ lowF (lenCnt l) n ≤ (2 ^ n - 1) * 576 := by
  induction n with
  | zero => simp [lowF]
  | succ n ih =>
    have h1 := ih (by omega)
    have h2 := lenCnt_bd l n (by omega)
    rw [lowF]
    have h3 : (2 : Int) ^ (n + 1) = 2 * 2 ^ n := by rw [Int.pow_succ]; omega
    rw [h3]
    generalize (2 : Int) ^ n = P at *
    omega
theorem pow16 (n : Nat) (hn : n ≤ 16) : (2 : Int) ^ n ≤ 65536 := by
  have : 2 ^ n ≤ 2 ^ 16 := Nat.pow_le_pow_right (by decide) hn
  have : ((2 ^ n : Nat) : Int) ≤ ((2 ^ 16 : Nat) : Int) := by exact_mod_cast this
  simpa using this
theorem lowF_small (l : List Int) (hl : l.length ≤ 288) (n : Nat) (hn : n ≤ 16) : 0 ≤ lowF (lenCnt l) n ∧ lowF (lenCnt l) n ≤ 40000000 := by
  have := lowF_bd l hl n hn
  have := pow16 n hn
  omega
theorem lowL_zero (c : List Int) : lowL c 1 = List.replicate 16 0 := by
  refine List.ext_getElem (by simp [lowL]) fun j h1 h2 => ?_
  simp only [lowL, List.getElem_map, List.getElem_range, List.getElem_replicate]
  split
  · rw [show j = 0 by omega]; rfl
  · rfl
theorem lowL_succ (c : List Int) (n : Nat) (hn : n < 16) : lowL c (n + 1) = (lowL c n).set n (lowF c n) := by
  refine List.ext_getElem (by simp [lowL]) fun j h1 h2 => ?_
  rw [List.getElem_set]
  simp only [lowL, List.getElem_map, List.getElem_range]
  by_cases e : n = j
  · subst e; rw [if_pos rfl, if_pos (by omega)]
  · rw [if_neg e]
    by_cases e2 : j < n
    · rw [if_pos (by omega), if_pos e2]
    · rw [if_neg (by omega), if_neg e2]
end Go.Proofs.YtcblibefmclloaaDoor
