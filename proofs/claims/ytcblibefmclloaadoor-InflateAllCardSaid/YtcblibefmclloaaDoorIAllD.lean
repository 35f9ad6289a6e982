import Derived.Test.YtcblibefmclloaaDoorIAllA
import Derived.Test.YtcblibefmclloaaDoorIAllB
import Derived.WalkMore
import Derived.Deep.Heap
import Derived.Laws.CopyOwn
import Derived.Laws.OwnMore
import Derived.Deep.AppendLies
import Derived.RegionTactic
import Derived.BigQuiet
import Derived.BigRegion
import Derived.Test.YtcblibefmclloaaDoorIAllC
set_option linter.unusedVariables false
set_option linter.unusedSimpArgs false
/-! Bits that are laid into bytes: plain mathematics, then the writer's walks. -/
namespace Go.Proofs.YtcblibefmclloaaDoor
open Go.RowKit
def vbits (r : Int) (k : Nat) : List Int := (List.range k).map fun t => r / 2 ^ t % 2
theorem vbits_len (r : Int) (k : Nat) : (vbits r k).length = k := by simp [vbits]
theorem vbits_nth (r : Int) (k t : Nat) (h : t < k) : nth (vbits r k) t = r / 2 ^ t % 2 := by simp [vbits, nth, List.getD, h]
theorem vbits_add (r : Int) (j k : Nat) : vbits r (j + k) = vbits r j ++ vbits (r / 2 ^ j) k := by
  unfold vbits
  rw [List.range_add, List.map_append, List.map_map]
  congr 1
  refine List.map_congr_left fun t _ => ?_
  simp only [Function.comp]
  rw [Int.pow_add, div_div _ _ _ (pow_cast _)]
/-- Bytes hold these bits, and no more. -/
structure WB (xs bl : List Int) : Prop where
  len : xs.length = (bl.length + 7) / 8
  byte : ∀ j, 0 ≤ nth xs j ∧ nth xs j ≤ 255
  top : bl.length % 8 ≠ 0 → nth xs (bl.length / 8) < 2 ^ (bl.length % 8)
  bit : ∀ i, i < bl.length → bitAt xs i = nth bl i
theorem WB.zero : WB [] [] := ⟨rfl, fun j => by simp [nth], fun h => absurd rfl h, fun i h => by simp at h⟩
/-- The bytes, one more if the last is full. -/
def padF (xs bl : List Int) : List Int := if bl.length % 8 = 0 then xs ++ [0] else xs
theorem pad_len {xs bl : List Int} (h : WB xs bl) : (padF xs bl).length = bl.length / 8 + 1 := by
  unfold padF
  have := h.len
  split
  · rw [List.length_append, List.length_singleton]; omega
  · omega
theorem pad_nth {xs bl : List Int} (h : WB xs bl) (j : Nat) : nth (padF xs bl) j = nth xs j := by
  unfold padF
  split
  · by_cases hj : j < xs.length
    · simp [nth, List.getD, List.getElem?_append_left hj]
    · by_cases hj2 : j = xs.length
      · subst hj2; simp [nth, List.getD]
      · simp [nth, List.getD, List.getElem?_eq_none (show xs.length ≤ j by omega), List.getElem?_eq_none (show (xs ++ [0]).length ≤ j by simp; omega)]
  · rfl
theorem pad_last {xs bl : List Int} (h : WB xs bl) : 0 ≤ nth (padF xs bl) (bl.length / 8) ∧ nth (padF xs bl) (bl.length / 8) < 2 ^ (bl.length % 8) := by
  rw [pad_nth h]
  refine ⟨(h.byte _).1, ?_⟩
  by_cases h8 : bl.length % 8 = 0
  · have : nth xs (bl.length / 8) = 0 := by
      have := h.len
      simp [nth, List.getD, List.getElem?_eq_none (show xs.length ≤ bl.length / 8 by omega)]
    rw [this]; exact pow_cast _
  · exact h.top h8
theorem nth_set_eq (xs : List Int) (i : Nat) (y : Int) (h : i < xs.length) : nth (xs.set i y) i = y := by simp [nth, List.getD, h]
theorem nth_set_ne (xs : List Int) (i j : Nat) (y : Int) (h : j ≠ i) : nth (xs.set i y) j = nth xs j := by simp [nth, List.getD, List.getElem?_set_ne (Ne.symm h)]
theorem mod_div_mod (r : Int) (k t : Nat) (h : t < k) : r % 2 ^ k / 2 ^ t % 2 = r / 2 ^ t % 2 := by
  have e : r = r % 2 ^ k + 2 ^ (k - t - 1) * 2 * (r / 2 ^ k) * 2 ^ t := by
    have h1 := Int.emod_add_mul_ediv r (2 ^ k)
    have h2 : (2 : Int) ^ k = 2 ^ (k - t - 1) * 2 * 2 ^ t := by rw [← Int.pow_succ, ← Int.pow_add]; congr 1; omega
    rw [Int.mul_assoc (2 ^ (k - t - 1) * 2), Int.mul_comm (r / 2 ^ k), ← Int.mul_assoc, ← h2]
    omega
  have h3 : r / 2 ^ t = r % 2 ^ k / 2 ^ t + 2 ^ (k - t - 1) * 2 * (r / 2 ^ k) := by
    conv => lhs; rw [e]
    exact Int.add_mul_ediv_right _ _ (Int.ne_of_gt (pow_cast t))
  rw [h3, Int.mul_comm (2 ^ (k - t - 1)) 2, Int.mul_assoc 2]
  omega
theorem pad_step {xs bl : List Int} (h : WB xs bl) (r : Int) (k : Nat) (h1 : 1 ≤ k) (hk : bl.length % 8 + k ≤ 8) :
    WB ((padF xs bl).set (bl.length / 8) (nth (padF xs bl) (bl.length / 8) + r % 2 ^ k * 2 ^ (bl.length % 8))) (bl ++ vbits r k) := by
  have hpl := pad_len h
  obtain ⟨x0, x1⟩ := pad_last h
  have hpn := pad_nth h
  have hby := h.byte
  generalize hX : padF xs bl = X at *
  obtain ⟨s, hs⟩ : ∃ s, s = bl.length % 8 := ⟨_, rfl⟩
  obtain ⟨q, hq⟩ : ∃ q, q = bl.length / 8 := ⟨_, rfl⟩
  rw [← hs] at hk x1 ⊢
  rw [← hq] at hpl x0 x1 ⊢
  have hL : bl.length = 8 * q + s := by omega
  have hr0 := Int.emod_nonneg r (show (2 : Int) ^ k ≠ 0 from Int.ne_of_gt (pow_cast k))
  have hr1 := Int.emod_lt_of_pos r (pow_cast k)
  have hps := pow_cast s
  generalize hx : nth X q = x at *
  obtain ⟨y, hy⟩ : ∃ y, y = x + r % 2 ^ k * 2 ^ s := ⟨_, rfl⟩
  rw [← hy]
  have y0 : 0 ≤ y := by rw [hy]; have := Int.mul_nonneg hr0 (Int.le_of_lt hps); omega
  have y1 : y < 2 ^ (s + k) := by
    have a : r % 2 ^ k * 2 ^ s ≤ (2 ^ k - 1) * 2 ^ s := Int.mul_le_mul_of_nonneg_right (by omega) (Int.le_of_lt hps)
    rw [Int.sub_mul, Int.one_mul, ← Int.pow_add, Nat.add_comm k s] at a
    omega
  have y2 := pow_le8 (s + k) hk
  have ydiv : y / 2 ^ s = r % 2 ^ k := by
    rw [hy, Int.add_mul_ediv_right _ _ (Int.ne_of_gt hps), Int.ediv_eq_zero_of_lt x0 x1]; omega
  refine ⟨?_, fun j => ?_, fun h8 => ?_, fun i hi => ?_⟩
  · rw [List.length_set, hpl, List.length_append, vbits_len]; omega
  · by_cases hj : j = q
    · subst hj; rw [nth_set_eq _ _ _ (by omega)]; omega
    · rw [nth_set_ne _ _ _ _ hj, hpn]; exact hby j
  · rw [List.length_append, vbits_len] at h8 ⊢
    rw [show (bl.length + k) / 8 = q by omega, nth_set_eq _ _ _ (by omega), show (bl.length + k) % 8 = s + k by omega]
    exact y1
  · rw [List.length_append, vbits_len] at hi
    by_cases hlt : i < bl.length
    · rw [show nth (bl ++ vbits r k) i = nth bl i by simp [nth, List.getD, List.getElem?_append_left hlt], ← h.bit i hlt]
      unfold bitAt
      by_cases hj : i / 8 = q
      · rw [hj, nth_set_eq _ _ _ (by omega), ← hpn, hx, hy]
        have ht : i % 8 < s := by omega
        generalize i % 8 = t at *
        have e : (2 : Int) ^ s = 2 ^ (s - t - 1) * 2 * 2 ^ t := by rw [← Int.pow_succ, ← Int.pow_add]; congr 1; omega
        rw [e, ← Int.mul_assoc, Int.add_mul_ediv_right _ _ (Int.ne_of_gt (pow_cast t)), ← Int.mul_assoc]
        omega
      · rw [nth_set_ne _ _ _ _ hj, hpn]
    · obtain ⟨t, rfl⟩ : ∃ t, i = bl.length + t := ⟨i - bl.length, by omega⟩
      have e2 : nth (bl ++ vbits r k) (bl.length + t) = nth (vbits r k) t := by simp [nth, List.getD, List.getElem?_append_right]
      rw [e2, vbits_nth _ _ _ (by omega)]
      unfold bitAt
      rw [show (bl.length + t) / 8 = q by omega, show (bl.length + t) % 8 = s + t by omega, nth_set_eq _ _ _ (by omega), Int.pow_add, ← div_div _ _ _ hps, ydiv, mod_div_mod r k t (by omega)]
theorem put_byte (x r : Int) (k s : Nat) (hx : 0 ≤ x) (hx1 : x < 2 ^ s) (hr : 0 ≤ r) (hr1 : r < 4294967296) (hk : s + k ≤ 8) :
    Go.bits .or .u8 x (IntKind.u8.wrap (IntKind.u8.wrap (Go.bits .and .u64 r (2 ^ k - 1)) * 2 ^ s)) = x + r % 2 ^ k * 2 ^ s := by
  have hps := pow_cast s
  have h0 := Int.emod_nonneg r (show (2 : Int) ^ k ≠ 0 from Int.ne_of_gt (pow_cast k))
  have h1 := Int.emod_lt_of_pos r (pow_cast k)
  have hk8 := pow_le8 k (by omega)
  have hsk := pow_le8 (s + k) hk
  have hs8 := pow_le8 s (by omega)
  have a0 : 0 ≤ r % 2 ^ k * 2 ^ s := Int.mul_nonneg h0 (Int.le_of_lt hps)
  have a1 : r % 2 ^ k * 2 ^ s < 256 := by
    have a : r % 2 ^ k * 2 ^ s ≤ (2 ^ k - 1) * 2 ^ s := Int.mul_le_mul_of_nonneg_right (by omega) (Int.le_of_lt hps)
    rw [Int.sub_mul, Int.one_mul, ← Int.pow_add, Nat.add_comm k s] at a
    omega
  rw [bits_mask .u64 64 (by decide) wraps_u64 k (by omega) r hr (by omega), wraps_u8 _ h0 (by omega), wraps_u8 _ a0 (by omega)]
  have hj := bits_join .u8 8 (by decide) wraps_u8 s (r % 2 ^ k * 2 ^ s) x a0 (by simp) (by omega) hx hx1 (by omega)
  obtain ⟨a, ha⟩ := Int.eq_ofNat_of_zero_le a0
  obtain ⟨b, rfl⟩ := Int.eq_ofNat_of_zero_le hx
  rw [ha] at hj a1 ⊢
  have ha' : a < 2 ^ 8 := by omega
  have hb' : b < 2 ^ 8 := by omega
  rw [(bits_nat .u8 8 (by decide) wraps_u8 a b ha' hb').2] at hj
  rw [(bits_nat .u8 8 (by decide) wraps_u8 b a hb' ha').2, Nat.or_comm, hj]
  omega
theorem put_byte2 (x r : Int) (k s : Nat) (hx : 0 ≤ x) (hx1 : x < 2 ^ s) (hr : 0 ≤ r) (hr1 : r < 4294967296) (hk : s + k ≤ 8) :
    Go.bits .or .u8 x (Go.bits .and .u64 r (IntKind.u64.wrap (IntKind.u64.wrap (2 ^ k) - 1)) % 256 * 2 ^ s % 256) = x + r % 2 ^ k * 2 ^ s := by
  have h := put_byte x r k s hx hx1 hr hr1 hk
  have e : ∀ n : Int, IntKind.u8.wrap n = n % 256 := fun n => by simp [IntKind.wrap, IntKind.bits, IntKind.signed]
  have hp := pow_cast k
  have hp8 := pow_le8 k (by omega)
  rw [wraps_u64 (2 ^ k) (by omega) (by omega), wraps_u64 (2 ^ k - 1) (by omega) (by omega)]
  rw [e, e] at h
  exact h

/-- A writer: its block, and a row of bytes behind it that hold these bits. -/
def Wtr (w : World) (g : Nat) (bl : List Int) : Prop :=
  ∃ (xs : List Int) (v : Value) (n : Nat), n = xs.length ∧ Blk w g 110 [v, .int .i64 bl.length] ∧ w.ownsRow (g + 1) 5 1 v n (ints .u8 xs) ∧ WB xs bl
theorem Wtr.lt {w : World} {g : Nat} {bl : List Int} (h : Wtr w g bl) : g < w.heap.size := by
  obtain ⟨_, _, _, _, h, _⟩ := h; exact h.lt
theorem Wtr.keeps {w w' : World} {g : Nat} {bl : List Int} {K : List Nat} (h : Wtr w g bl) (hk : Keeps K w w') (hK : ∀ x ∈ K, x < g ∨ w.heap.size ≤ x) : Wtr w' g bl := by
  obtain ⟨xs, v, n, h0, h1, h2, h3⟩ := h
  refine ⟨xs, v, n, h0, h1.keeps hk (fun hm => by have := h1.lt; rcases hK g hm with h | h <;> omega), own_keeps h2 hk fun x hx hm => ?_, h3⟩
  have a := own_lo h2 x hx
  have b := own_hi h2 x hx
  rcases hK x hm with h | h <;> omega
set_option maxRecDepth 100000 in
set_option maxHeartbeats 400000 in
theorem newWriter_calls (w : World) :
    Calls Tryd.prog 45 #[] w fun e w' => e = .returned (.pointer (some ⟨w.heap.size, 0, none⟩)) ∧ Wtr w' w.heap.size [] ∧ Below w.heap.size w w' := by
  go_enter Tryd.func45, Tryd.ntmps45
  go_wp2_with fail
  go_ret
  exact ⟨rfl, ⟨[], .slice none 0 0, 0, rfl, blk_new w 110 [.slice none 0 0, .int .i64 0], World.ownsRow_nil _ _ _ _, WB.zero⟩, (Below.refl _ w).alloc (Nat.le_refl _) _⟩
/-- A block of bytes. -/
def U8 (w : World) (k : Nat) : Prop := ∃ cur fr, w.heap[k]? = some (.cells cur 5 fr)
theorem own_u8 {w : World} {base size n : Nat} {v : Value} {xs : List Value} (h : w.ownsRow base 5 size v n xs) : ∀ k, v.ownBlock = some k → U8 w k := by
  intro k hk
  rcases h.2 with ⟨rfl, _⟩ | ⟨g, cap, cur, rfl, _, hh, _⟩
  · cases hk
  · obtain rfl := Option.some.inj hk
    exact ⟨_, _, hh⟩
/-- Nothing has turned but a writer's block, and blocks of bytes. -/
structure PT (g : Nat) (w w' : World) : Prop where
  size : w.heap.size ≤ w'.heap.size
  same : ∀ k, k < w.heap.size → k ≠ g → ¬ U8 w k → w'.heap[k]? = w.heap[k]?
theorem PT.refl (g : Nat) (w : World) : PT g w w := ⟨Nat.le_refl _, fun _ _ _ _ => rfl⟩
theorem PT.step {g : Nat} {w w1 w2 : World} (h : PT g w w1) (hs : w1.heap.size ≤ w2.heap.size) (h2 : ∀ k, k < w1.heap.size → k ≠ g → ¬ U8 w1 k → w2.heap[k]? = w1.heap[k]?) : PT g w w2 :=
  ⟨Nat.le_trans h.size hs, fun k hk hg hu => by
    have e := h.same k hk hg hu
    rw [h2 k (Nat.lt_of_lt_of_le hk h.size) hg (fun ⟨c, f, hc⟩ => hu ⟨c, f, by rw [← e]; exact hc⟩), e]⟩
theorem PT.trans {g : Nat} {w w1 w2 : World} (h : PT g w w1) (k : PT g w1 w2) : PT g w w2 := h.step k.size k.same
theorem PT.alloc {g : Nat} {w w1 : World} (h : PT g w w1) (o : Obj) : PT g w (w1.alloc o) := h.step (by simp) (fun k hk _ _ => Go.Deep.blk_alloc_lt _ _ _ hk)
theorem PT.drew {g : Nat} {w w1 : World} (h : PT g w w1) : PT g w w1.drew := h.step (Nat.le_refl _) (fun _ _ _ _ => rfl)
theorem PT.setG {g : Nat} {w w1 : World} (h : PT g w w1) (i : Nat) (v : Value) : PT g w (w1.setCell ⟨g, i, none⟩ v) := h.step (by simp [World.setCell]) (fun k _ hg _ => Go.Deep.blk_setCell_other _ _ _ _ hg)
theorem PT.setU {g : Nat} {w w1 : World} (h : PT g w w1) {b : Nat} (hb : U8 w1 b) (i : Nat) (v : Value) : PT g w (w1.setCell ⟨b, i, none⟩ v) := h.step (by simp [World.setCell]) (fun k _ _ hu => Go.Deep.blk_setCell_other _ _ _ _ (fun e => hu (by rw [e]; exact hb)))
theorem PT.grown {g : Nat} {w w1 w2 : World} {row : Option Nat} (h : PT g w w1) (hg : w1.grownBy w2 row) (hr : ∀ k, row = some k → U8 w1 k) : PT g w w2 := h.step hg.size (fun k hk _ hu => hg.block k hk (fun e => hu (hr k e.symm)))
theorem own_formW {w : World} {base : Nat} {e : TypeId} {size n : Nat} {v : Value} {xs : List Value} (h : w.ownsRow base e size v n xs) : ∃ A c, v = .slice A n c := by
  rcases h.2 with ⟨rfl, rfl⟩ | ⟨g, cap, cur, rfl, _⟩
  · exact ⟨_, _, rfl⟩
  · exact ⟨_, _, rfl⟩
set_option maxRecDepth 100000 in
set_option maxHeartbeats 4000000 in
theorem put_calls (w : World) (g : Nat) (bl : List Int) (x : Int) (m : Nat) (hw : Wtr w g bl) (hx : 0 ≤ x) (hx1 : x < 4294967296) (hm : m ≤ 32) (hxm : x / 2 ^ m = 0) (hb : bl.length ≤ 100000000) :
    Calls Tryd.prog 46 #[.pointer (some ⟨g, 0, none⟩), .int .u32 x, .int .i64 m] w fun e w' => e = .returned (.int .i64 0) ∧ Wtr w' g (bl ++ vbits x m) ∧ Below g w w' ∧ PT g w w' := by
  have HW := Lib.hid hw
  have HXM := Lib.hid hxm
  clear hw hxm
  go_enter Tryd.func46, Tryd.ntmps46
  have e1 : decide ((m : Int) < 0) = false := by simp
  have e2 : decide (32 < m) = false := by simp; omega
  have e3 : decide ((32 : Int) < (m : Int)) = false := by simp; omega
  have e4 : (x / 2 ^ m != 0) = false := by simpa using HXM.out
  go_wp2_with fail
  go_step3
  go_wp2_with fail
  go_step3
  go_wp2_with fail
  clear e1 e2 e3 e4
  have HW0 : Hid (Wtr w g (bl ++ vbits x 0)) := Lib.hid (by simpa [vbits] using HW.out)
  clear HW
  go_loopw [2, 7] (fun nv rv wr => ∃ j : Nat, j ≤ m ∧ nv = .int .i64 ((m : Int) - j) ∧ rv = .int .u64 (x / 2 ^ j) ∧ Hid (Wtr wr g (bl ++ vbits x j)) ∧ Hid (Below g w wr) ∧ Hid (PT g w wr)) (fun nv _ _ => (intOf nv).toNat)
  case atStart => exact ⟨0, by omega, by simp, by simp, HW0, Lib.hid (Below.refl _ _), Lib.hid (PT.refl _ _)⟩
  case round =>
    clear HW0
    obtain ⟨j, hj, rfl, rfl, HW, HB, HP⟩ := hrel
    by_cases hjm : j < m
    · have e1 : ((m : Int) - j == 0) = false := by simp; omega
      obtain ⟨xs, v, n2, hn2, hblk, hown, hwb⟩ := HW.out
      have hlen : (bl ++ vbits x j).length = bl.length + j := by rw [List.length_append, vbits_len]
      obtain ⟨L, hL⟩ : ∃ L, L = bl.length + j := ⟨_, rfl⟩
      have hLb : L ≤ 100000032 := by omega
      rw [hlen, ← hL] at hblk
      have HL := Lib.hid hL
      have HLEN : Hid ((bl ++ vbits x j).length = L) := Lib.hid (by rw [hlen, hL])
      have hr0 : 0 ≤ x / 2 ^ j := Int.ediv_nonneg hx (Int.le_of_lt (pow_cast j))
      have hr1 : x / 2 ^ j < 4294967296 := Int.lt_of_le_of_lt (Int.ediv_le_self _ hx) hx1
      obtain ⟨k, hk⟩ : ∃ k : Nat, (if 8 - (L : Int) % 8 < (m : Int) - j then 8 - (L : Int) % 8 else (m : Int) - j) = (k : Int) := ⟨min (m - j) (8 - L % 8), by split <;> omega⟩
      have hk1 : 1 ≤ k := by split at hk <;> omega
      have hk8 : L % 8 + k ≤ 8 := by split at hk <;> omega
      have hkm : j + k ≤ m := by split at hk <;> omega
      have s5 : (0 : Int) ≤ (L : Int) % 8 := by omega
      have s6 : (L : Int) % 8 < 8 := by omega
      have s7 : (0 : Int) ≤ (L : Int) := by omega
      have hnext : Hid (x / 2 ^ j / 2 ^ k = x / 2 ^ (j + k)) := Lib.hid (by rw [div_div _ _ _ (pow_cast j), ← Int.pow_add])
      have hstep : Hid (WB ((padF xs (bl ++ vbits x j)).set (L / 8) (nth (padF xs (bl ++ vbits x j)) (L / 8) + x / 2 ^ j % 2 ^ k * 2 ^ (L % 8))) (bl ++ vbits x (j + k))) := Lib.hid (by
        have := pad_step hwb (x / 2 ^ j) k hk1 (by rw [HLEN.out]; exact hk8)
        rw [HLEN.out, List.append_assoc, ← vbits_add] at this
        exact this)
      have hplen : Hid ((padF xs (bl ++ vbits x j)).length = L / 8 + 1) := Lib.hid (by rw [pad_len hwb, HLEN.out])
      have hplast : Hid (0 ≤ nth (padF xs (bl ++ vbits x j)) (L / 8) ∧ nth (padF xs (bl ++ vbits x j)) (L / 8) < 2 ^ (L % 8)) := Lib.hid (by have := pad_last hwb; rwa [HLEN.out] at this)
      have hpad : Hid (padF xs (bl ++ vbits x j) = if L % 8 = 0 then xs ++ [0] else xs) := Lib.hid (by unfold padF; rw [HLEN.out])
      clear hlen hwb hL HLEN
      generalize padF xs (bl ++ vbits x j) = X at *
      have h0 := hblk.cell 0
      have h1 := hblk.cell 1
      simp only [List.getElem?_cons_zero, List.getElem?_cons_succ] at h0 h1
      have hf0 := hblk.frozen 0
      have hf1 := hblk.frozen 1
      by_cases h8 : L % 8 = 0
      · have e2 : ((L : Int) % 8 == 0) = true := by simp; omega
        have hX : X = xs ++ [0] := by have := hpad.out; rwa [if_pos h8] at this
        have hxl : xs.length = L / 8 := by have := hplen.out; rw [hX, List.length_append, List.length_singleton] at this; omega
        have hlt := hblk.lt
        have HOA : Hid ((wr.alloc (.cells #[.int .u8 0] 5)).ownsRow (g + 1) 5 1 v n2 (ints .u8 xs)) := Lib.hid (own_keeps hown ((Keeps.refl [] wr).alloc _) (by simp))
        have HRI : Hid (RI .u8 (wr.alloc (.cells #[.int .u8 0] 5)) (some ⟨wr.heap.size, 0, none⟩) 1 [0]) := Lib.hid (Blk.ri (xs := [0]) (ys := []) (k := .u8) (by simpa [ints] using blk_new wr 5 (ints .u8 [0])))
        have HBA := Lib.hid (HB.out.alloc (Nat.le_of_lt hlt) (.cells #[.int .u8 0] 5))
        have HPA := Lib.hid (HP.out.alloc (.cells #[.int .u8 0] 5))
        have HBK := Lib.hid (hblk.keeps ((Keeps.refl [] wr).alloc (.cells #[.int .u8 0] 5)) (by simp))
        have hn2b : n2 ≤ 100000032 := by omega
        have HN2 : Hid (n2 = L / 8) := Lib.hid (by rw [hn2, hxl])
        obtain ⟨vA, vc, rfl⟩ : ∃ A c, v = .slice A n2 c := own_formW hown
        clear hown hblk hn2 HW hpad
        go_wp2_with (at_builtin; refine app_bytes rfl (.tmp 40) (.tmp 41) rfl (g + 1) _ _ xs rfl (by exact HOA.out) _ 1 1 [0] rfl (by exact HRI.out) (by simp) (by omega) ?c4 ?_)
        case c4 => simp; omega
        intro v1 w1 ho1 hg1
        have hg0 : ∀ k, (Value.slice vA n2 vc).ownBlock = some k → g + 1 ≤ k := fun k hk => (HOA.out.lt k hk).1
        have hblk1 : Blk w1 g 110 [.slice vA n2 vc, .int .i64 L] := (hg1.block g (Nat.lt_trans hlt (by simp)) (fun e => by have := hg0 g e.symm; omega)).trans HBK.out
        have HB1 := Lib.hid (HBA.out.grown hg1 (by simp; omega) (fun k hk => by have := hg0 k hk; omega))
        have HP1 := Lib.hid (HPA.out.grown hg1 (own_u8 HOA.out))
        clear HPA HP
        rw [← hX, HN2.out] at ho1
        have ho1' : w1.ownsRow (g + 1) 5 1 v1 (L / 8 + 1) (ints .u8 X) := ho1
        obtain ⟨rb, cap, rfl, hrb1, hrb2⟩ := ho1'.form (by omega)
        have c0 := hblk1.cell 0
        have c1 := hblk1.cell 1
        simp only [List.getElem?_cons_zero, List.getElem?_cons_succ] at c0 c1
        have cf0 := hblk1.frozen 0
        have hS1 := ownsRow_setCell_below ho1' (a := ⟨g, 0, none⟩) (Nat.lt_succ_self g) (.slice (some ⟨rb, 0, none⟩) (L / 8 + 1) cap)
        have hS2 := hblk1.set 0 (.slice (some ⟨rb, 0, none⟩) (L / 8 + 1) cap)
        have hS3 := HB1.out.setCell (p := ⟨g, 0, none⟩) (Nat.le_refl g) (.slice (some ⟨rb, 0, none⟩) (L / 8 + 1) cap)
        have hP4 := HP1.out.setG 0 (.slice (some ⟨rb, 0, none⟩) (L / 8 + 1) cap)
        have hS4 : rb < (w1.setCell ⟨g, 0, none⟩ (.slice (some ⟨rb, 0, none⟩) (L / 8 + 1) cap)).heap.size := by simpa [World.setCell] using hrb2
        simp only [List.set_cons_zero] at hS2
        have HS := Lib.hid (And.intro hS1 (And.intro hS2 (And.intro hS3 hP4)))
        clear hS1 hS2 hS3 hP4 HP1 h0 h1 hf0 hf1 HOA HRI HBA HBK hblk1 ho1 ho1' HB1 hg1 HB hrb2
        go_upto_region 9 with (fail)
        obtain ⟨hown, hblk, hHB, hHP⟩ := HS.out
        clear HS c0 c1 cf0 hg0 HN2 hX hxl h8 e2
        generalize w1.setCell ⟨g, 0, none⟩ (.slice (some ⟨rb, 0, none⟩) (L / 8 + 1) cap) = ws at *
        have HB := Lib.hid hHB
        have HP := Lib.hid hHP
        have hrb2 := hS4
        have h0 := hblk.cell 0
        have h1 := hblk.cell 1
        simp only [List.getElem?_cons_zero, List.getElem?_cons_succ] at h0 h1
        have hf0 := hblk.frozen 0
        have hf1 := hblk.frozen 1
        clear hHB hHP hS4
        have hcl := hown.cellAt (L / 8) (by omega)
        have hfr := hown.frozenAt (L / 8)
        rw [show (ints .u8 X)[L / 8]? = some (.int .u8 (nth X (L / 8))) by rw [ints_getElem?]; simp [nth, List.getD, show L / 8 < X.length by rw [hplen.out]; omega]] at hcl
        have HST := Lib.hid (hown.stored (L / 8) (.int .u8 (nth X (L / 8) + x / 2 ^ j % 2 ^ k * 2 ^ (L % 8))))
        have T := Lib.hid (put_byte2 (nth X (L / 8)) (x / 2 ^ j) k (L % 8) hplast.out.1 hplast.out.2 hr0 hr1 hk8)
        have HBLK := Lib.hid hblk
        have HU := Lib.hid (own_u8 hown rb rfl)
        clear hown hblk
        have t1 : ((L : Int) % 8).toNat = L % 8 := by omega
        have t2 : (((L / 8 + 1 : Nat) : Int) - 1).toNat = L / 8 := by omega
        have t3 : (0 : Int) ≤ ((L / 8 + 1 : Nat) : Int) - 1 := by omega
        have t4 : ((L / 8 + 1 : Nat) : Int) - 1 < ((L / 8 + 1 : Nat) : Int) := by omega
        have hnb : rb ≠ g := by omega
        generalize nth X (L / 8) = b at *
        generalize x / 2 ^ j = r at *
        have hqb : L / 8 ≤ 100000032 := by omega
        generalize L / 8 = q at *
        have t5 : IntKind.i64.wrap (q : Int) = (q : Int) := IntWalk.i64_in _ (by omega)
        have t6 : (q : Int) < (q : Int) + 1 := by omega
        have t7 : (0 : Int) ≤ (q : Int) := by omega
        have t8 : (q : Int) < ((q + 1 : Nat) : Int) := by omega
        clear t2 t3 t4
        go_upto_region 10 with (fail)
        clear hk
        go_region
        rw [T.out]
        have hk2 : Keeps [rb] ws (ws.setCell ⟨rb, q, none⟩ (.int .u8 (b + r % 2 ^ k * 2 ^ (L % 8)))) := (Keeps.refl [rb] ws).setCell (p := ⟨rb, q, none⟩) (Or.inl (by simp)) _
        have hblk2 := HBLK.out.keeps hk2 (by simpa using Ne.symm hnb)
        have HB2 := Lib.hid (HB.out.setCell (p := ⟨rb, q, none⟩) (show g ≤ rb by omega) (.int .u8 (b + r % 2 ^ k * 2 ^ (L % 8))))
        have HP2 := Lib.hid (HP.out.setU HU.out q (.int .u8 (b + r % 2 ^ k * 2 ^ (L % 8))))
        obtain ⟨ho2, -⟩ := HST.out
        rw [show (ints .u8 X).set q (.int .u8 (b + r % 2 ^ k * 2 ^ (L % 8))) = ints .u8 (X.set q (b + r % 2 ^ k * 2 ^ (L % 8))) by simp [ints, List.map_set]] at ho2
        generalize ws.setCell ⟨rb, q, none⟩ (.int .u8 (b + r % 2 ^ k * 2 ^ (L % 8))) = w2 at *
        have h1' := hblk2.cell 1
        simp only [List.getElem?_cons_zero, List.getElem?_cons_succ] at h1'
        have hf1' := hblk2.frozen 1
        have HBLK2 := Lib.hid hblk2
        have HOWN2 := Lib.hid ho2
        have v1 : IntKind.i64.wrap ((L : Int) + k) = (L : Int) + k := IntWalk.i64_in _ (by omega)
        have v2 : IntKind.i64.wrap ((m : Int) - j - k) = (m : Int) - j - k := IntWalk.i64_in _ (by omega)
        clear hk2 hblk2 ho2 h0 h1 hf0 hf1 hfr hcl HBLK HST T HB HP HU
        go_wp2_with fail
        go_roundw
        case rel =>
          refine ⟨j + k, hkm, by go_num, by rw [← hnext.out], Lib.hid ?_, Lib.hid ?_, Lib.hid (HP2.out.drew.setG 1 _)⟩
          · refine ⟨_, _, _, ?_, ?_, ownsRow_setCell_below HOWN2.out.drew (a := ⟨g, 1, none⟩) (Nat.lt_succ_self g) _, hstep.out⟩
            · rw [List.length_set, hplen.out]
            · have := (HBLK2.out.keeps (Keeps.refl [] w2).drew (by simp)).set 1 (.int .i64 ((L : Int) + k))
              rw [show (bl ++ vbits x (j + k)).length = L + k by rw [List.length_append, vbits_len, HL.out]; omega]
              exact this
          · exact (HB2.out.trans ((Keeps.refl [] w2).drew.below.mono (Nat.le_of_lt HBLK2.out.lt))).setCell (p := ⟨g, 1, none⟩) (Nat.le_refl g) _
        case measure => simp [intOf]; omega
      · have e2 : ((L : Int) % 8 == 0) = false := by simp; omega
        have hX : X = xs := by have := hpad.out; rwa [if_neg h8] at this
        subst hX
        have hn3 : n2 = L / 8 + 1 := by rw [hn2, hplen.out]
        subst hn3
        obtain ⟨rb, cap, rfl, hrb1, hrb2⟩ := hown.form (by omega)
        obtain ⟨ws, hws⟩ : ∃ ws : World, ws = wr := ⟨_, rfl⟩
        rw [← hws] at hown hblk HB HP h0 h1 hf0 hf1 hrb2 ⊢
        clear hws HW
        have hcl := hown.cellAt (L / 8) (by omega)
        have hfr := hown.frozenAt (L / 8)
        rw [show (ints .u8 X)[L / 8]? = some (.int .u8 (nth X (L / 8))) by rw [ints_getElem?]; simp [nth, List.getD, show L / 8 < X.length by rw [hplen.out]; omega]] at hcl
        have HST := Lib.hid (hown.stored (L / 8) (.int .u8 (nth X (L / 8) + x / 2 ^ j % 2 ^ k * 2 ^ (L % 8))))
        have T := Lib.hid (put_byte2 (nth X (L / 8)) (x / 2 ^ j) k (L % 8) hplast.out.1 hplast.out.2 hr0 hr1 hk8)
        have HBLK := Lib.hid hblk
        have HU := Lib.hid (own_u8 hown rb rfl)
        clear hown hblk hn2 hpad
        have t1 : ((L : Int) % 8).toNat = L % 8 := by omega
        have t2 : (((L / 8 + 1 : Nat) : Int) - 1).toNat = L / 8 := by omega
        have t3 : (0 : Int) ≤ ((L / 8 + 1 : Nat) : Int) - 1 := by omega
        have t4 : ((L / 8 + 1 : Nat) : Int) - 1 < ((L / 8 + 1 : Nat) : Int) := by omega
        have hnb : rb ≠ g := by omega
        generalize nth X (L / 8) = b at *
        generalize x / 2 ^ j = r at *
        have hqb : L / 8 ≤ 100000032 := by omega
        generalize L / 8 = q at *
        have t5 : IntKind.i64.wrap (q : Int) = (q : Int) := IntWalk.i64_in _ (by omega)
        have t6 : (q : Int) < (q : Int) + 1 := by omega
        have t7 : (0 : Int) ≤ (q : Int) := by omega
        have t8 : (q : Int) < ((q + 1 : Nat) : Int) := by omega
        clear t2 t3 t4
        go_upto_region 10 with (fail)
        clear hk
        go_region
        rw [T.out]
        have hk2 : Keeps [rb] ws (ws.setCell ⟨rb, q, none⟩ (.int .u8 (b + r % 2 ^ k * 2 ^ (L % 8)))) := (Keeps.refl [rb] ws).setCell (p := ⟨rb, q, none⟩) (Or.inl (by simp)) _
        have hblk2 := HBLK.out.keeps hk2 (by simpa using Ne.symm hnb)
        have HB2 := Lib.hid (HB.out.setCell (p := ⟨rb, q, none⟩) (show g ≤ rb by omega) (.int .u8 (b + r % 2 ^ k * 2 ^ (L % 8))))
        have HP2 := Lib.hid (HP.out.setU HU.out q (.int .u8 (b + r % 2 ^ k * 2 ^ (L % 8))))
        obtain ⟨ho2, -⟩ := HST.out
        rw [show (ints .u8 X).set q (.int .u8 (b + r % 2 ^ k * 2 ^ (L % 8))) = ints .u8 (X.set q (b + r % 2 ^ k * 2 ^ (L % 8))) by simp [ints, List.map_set]] at ho2
        generalize ws.setCell ⟨rb, q, none⟩ (.int .u8 (b + r % 2 ^ k * 2 ^ (L % 8))) = w2 at *
        have h1' := hblk2.cell 1
        simp only [List.getElem?_cons_zero, List.getElem?_cons_succ] at h1'
        have hf1' := hblk2.frozen 1
        have HBLK2 := Lib.hid hblk2
        have HOWN2 := Lib.hid ho2
        have v1 : IntKind.i64.wrap ((L : Int) + k) = (L : Int) + k := IntWalk.i64_in _ (by omega)
        have v2 : IntKind.i64.wrap ((m : Int) - j - k) = (m : Int) - j - k := IntWalk.i64_in _ (by omega)
        clear hk2 hblk2 ho2 h0 h1 hf0 hf1 hfr hcl HBLK HST T HB HP HU
        go_wp2_with fail
        go_roundw
        case rel =>
          refine ⟨j + k, hkm, by go_num, by rw [← hnext.out], Lib.hid ?_, Lib.hid ?_, Lib.hid (HP2.out.drew.setG 1 _)⟩
          · refine ⟨_, _, _, ?_, ?_, ownsRow_setCell_below HOWN2.out.drew (a := ⟨g, 1, none⟩) (Nat.lt_succ_self g) _, hstep.out⟩
            · rw [List.length_set, hplen.out]
            · have := (HBLK2.out.keeps (Keeps.refl [] w2).drew (by simp)).set 1 (.int .i64 ((L : Int) + k))
              rw [show (bl ++ vbits x (j + k)).length = L + k by rw [List.length_append, vbits_len, HL.out]; omega]
              exact this
          · exact (HB2.out.trans ((Keeps.refl [] w2).drew.below.mono (Nat.le_of_lt HBLK2.out.lt))).setCell (p := ⟨g, 1, none⟩) (Nat.le_refl g) _
        case measure => simp [intOf]; omega
    · obtain rfl : j = m := by omega
      have e1 : ((j : Int) - j == 0) = true := by simp
      go_wp2_with fail
      dsimp only [Exit.noGoto]
      go_ret
      exact ⟨rfl, HW.out, HB.out, HP.out⟩

theorem size_u8b : (Tryd.prog.info? 5).map (·.size) = some 1 := by kernel_rfl
set_option maxRecDepth 100000 in
set_option maxHeartbeats 400000 in
theorem bytes_calls (w : World) (g : Nat) (bl : List Int) (hw : Wtr w g bl) (hb : bl.length ≤ 100000000) :
    Calls Tryd.prog 48 #[.pointer (some ⟨g, 0, none⟩)] w fun e w' => ∃ (n : Nat) (xs : List Int), e = .returned (.slice (some ⟨w.heap.size, 0, none⟩) n n) ∧ RI .u8 w' (some ⟨w.heap.size, 0, none⟩) n xs ∧ WB xs bl ∧ Below w.heap.size w w' := by
  obtain ⟨xs, v, n, hn, hblk, hown, hwb⟩ := hw
  obtain ⟨A, c, rfl⟩ := own_formW hown
  obtain ⟨A', c', hv, hri, -, -⟩ := own_ri hown
  injection hv with h1 h2 h3
  subst h1
  subst h3
  have hnb : n ≤ 12500001 := by have := hwb.len; omega
  have h0 := hblk.cell 0
  simp only [List.getElem?_cons_zero] at h0
  have hlt := hblk.lt
  have LX : Hid (xs.length = n) := Lib.hid hn.symm
  have HX := Lib.hid hri
  have HWB := Lib.hid hwb
  clear hown hri hwb hn hblk
  have hmk := fun w => make_ints (P := Tryd.prog) w 37 5 .u8 1 Tryd.underlying37 info_u8 (n : Int) n rfl (by omega) (by omega)
  go_enter Tryd.func48, Tryd.ntmps48
  go_wp2_with (with_reducible refine wpList_copy_splice rfl (.tmp 12) (.tmp 16) _ _ rfl 5 Tryd.underlying37 size_u8b _ _ _ _ _ _ rfl rfl w.heap.size 0 (ints .u8 (List.replicate n 0)) 5 ?h1 (ints .u8 xs) ?h2 ?h3 ?h4 ?h5 w.heap.size w ?h6 (Nat.le_refl _) ?_)
  case h1 => first | exact blk_new w _ _ | exact (Array.getElem?_eq_some_iff.1 (blk_new w 5 (ints .u8 (List.replicate n 0)))).2
  case h2 => have := LX.out; simp [ints]; omega
  case h3 =>
    intro hp
    obtain ⟨a, o, ha⟩ := HX.out.hd (by have := LX.out; simpa [ints, this] using hp)
    refine ⟨_, ha, fun j v hv => ?_⟩
    have hj : j < n := by have := LX.out; have := (List.getElem?_eq_some_iff.1 hv).1; simp [ints] at this; omega
    have hc := HX.out.cell a o ha j hj
    have e : (ints .u8 xs)[j]? = some (.int .u8 (nth xs j)) := by rw [ints_getElem?]; simp [nth, List.getD, show j < xs.length from by have := LX.out; omega]
    rw [e] at hv
    rw [← Option.some.inj hv, add_plain2]
    exact (Keeps.refl [] w).alloc _ |>.cell (by simp) hc
  case h4 => have := LX.out; simp [ints]; omega
  case h5 => intro v hv; simp only [ints, List.mem_map] at hv; obtain ⟨x, _, rfl⟩ := hv; rfl
  case h6 => exact (Below.refl _ _).alloc (Nat.le_refl _) _
  intro w1 hg1 hb1
  have hB : Blk w1 w.heap.size 5 (splice (ints .u8 (List.replicate n 0)) 0 (ints .u8 xs)) := hg1.out
  have hsp : splice (ints .u8 (List.replicate n 0)) 0 (ints .u8 xs) = ints .u8 (xs ++ []) := by
    have := LX.out
    simp [splice, ints, this]
  rw [hsp] at hB
  have HR2 := Lib.hid hB.ri
  have HB1 := Lib.hid hb1
  clear hg1 hsp hB hmk hb1
  go_wp2
  go_ret
  exact ⟨n, xs, rfl, by have := HR2.out; rwa [LX.out] at this, HWB.out, HB1.out⟩
end Go.Proofs.YtcblibefmclloaaDoor

/- Levels of packages: bounds, pieces. -/
set_option linter.unusedVariables false
set_option linter.unusedSimpArgs false
namespace Go.Proofs.YtcblibefmclloaaDoor
def pth2 (X : List PP) (j : Nat) : PP := X.getD j (0, [])
theorem pairsF_take (X : List PP) : ∀ j, 2 * j + 1 < X.length → (pairsF X).take (j + 1) = (pairsF X).take j ++ [((pth2 X (2 * j)).1 + (pth2 X (2 * j + 1)).1, (pth2 X (2 * j)).2 ++ (pth2 X (2 * j + 1)).2)] := by
  induction X using pairsF.induct with
  | case1 a b r ih =>
    intro j hj
    rw [pairsF]
    match j with
    | 0 => rfl
    | j + 1 =>
      have := ih j (by simp only [List.length_cons] at hj; omega)
      rw [List.take_succ_cons, this, List.take_succ_cons]
      rfl
  | case2 l hl =>
    intro j hj
    match l, hl with
    | [], _ => simp at hj
    | [x], _ => simp at hj
    | a :: b :: r, h => exact absurd rfl (h a b r)
theorem pairsF_done (X : List PP) (j : Nat) (h : X.length ≤ 2 * j + 1) : (pairsF X).take j = pairsF X := List.take_of_length_le (by rw [pairsF_len]; omega)
theorem sortP_pos {l : List PP} (h : posP l) : posP (sortP l) := posP_perm (sortP_perm l) h
theorem level_ok {lv : List PP} (h : posP lv) (hs : sumW lv ≤ 288000000000000) (hl : sumS lv ≤ 288) {t : Nat} (ht : t ≤ 15) :
    (∀ x ∈ levelF (sortP lv) t, 0 < x.1 ∧ x.1 ≤ 100000000000000000 ∧ x.2.length ≤ 4320) := by
  obtain ⟨h1, h2, h3, h4⟩ := level_bd (sortP lv) (sortP_pos h) t
  rw [sumW_perm (sortP_perm lv)] at h2
  rw [sumS_perm (sortP_perm lv)] at h3
  intro x hx
  have a1 := le_sumW h1 hx
  have a2 := le_sumS hx
  have w0 := sumW_nonneg lv h
  have b1 : (t : Int) * sumW lv ≤ 15 * 288000000000000 := by
    have : (t : Int) * sumW lv ≤ 15 * sumW lv := Int.mul_le_mul_of_nonneg_right (by omega) w0
    omega
  have b2 : t * sumS lv ≤ 15 * 288 := Nat.mul_le_mul ht hl
  exact ⟨(h1 x hx).1, by omega, by omega⟩
theorem level_next_ok {lv : List PP} (h : posP lv) (hs : sumW lv ≤ 288000000000000) (hl : sumS lv ≤ 288) {t : Nat} (ht : t < 15) :
    ∀ x ∈ sortP lv ++ pairsF (levelF (sortP lv) t), 0 ≤ x.1 ∧ x.1 ≤ 100000000000000000 := by
  intro x hx
  have := level_ok h hs hl (t := t + 1) (by omega) x ((sortP_perm _).mem_iff.2 hx)
  omega
theorem leaf_ok {lv : List PP} (h : posP lv) (hs : sumW lv ≤ 288000000000000) : ∀ x ∈ lv, 0 ≤ x.1 ∧ x.1 ≤ 100000000000000000 := by
  intro x hx
  have := le_sumW h hx
  have := (h x hx).1
  omega
theorem flat_len {X : List PP} (h : ∀ x ∈ X, x.2.length ≤ 4320) : (X.flatMap Prod.snd).length ≤ X.length * 4320 := by
  induction X with
  | nil => simp
  | cons a r ih =>
    have := ih (fun x hx => h x (by simp [hx]))
    have := h a (by simp)
    rw [List.flatMap_cons, List.length_append, List.length_cons]
    omega
theorem cnt_bd (n : Nat) (S : List Int) (s : Nat) (h : s < n) : 0 ≤ nth (cntF n S) s ∧ nth (cntF n S) s ≤ S.length := by
  rw [cntF_nth n S s h]
  have := List.count_le_length (a := (s : Int)) (l := S)
  omega
/-- There are packages enough. -/
theorem level_len (lv : List PP) (m : Nat) (h2 : 2 ≤ lv.length) (hm : lv.length ≤ 2 ^ m) : 2 * lv.length - 2 ≤ (levelF (sortP lv) m).length := by
  have key : ∀ t, 1 ≤ t → 2 * lv.length ≤ (levelF (sortP lv) t).length + 1 + (lv.length - 1) / 2 ^ (t - 1) := by
    intro t
    induction t with
    | zero => intro h; omega
    | succ t ih =>
      intro _
      rw [levelF, sortP_len, List.length_append, sortP_len, pairsF_len]
      by_cases ht : t = 0
      · subst ht; simp [levelF]; omega
      · have := ih (by omega)
        have e : (lv.length - 1) / 2 ^ (t + 1 - 1) = (lv.length - 1) / 2 ^ (t - 1) / 2 := by
          rw [Nat.div_div_eq_div_mul, ← Nat.pow_succ]
          congr 2; omega
        rw [e]
        omega
  have hm0 : 1 ≤ m := by
    by_cases h : m = 0
    · subst h; simp at hm; omega
    · omega
  have := key m hm0
  have hd : (lv.length - 1) / 2 ^ (m - 1) ≤ 1 := by
    have h3 : 2 ^ m = 2 * 2 ^ (m - 1) := by rw [← Nat.pow_succ']; congr 1; omega
    have : (lv.length - 1) / 2 ^ (m - 1) < 2 := by
      rw [Nat.div_lt_iff_lt_mul (Nat.two_pow_pos _)]; omega
    omega
  omega
end Go.Proofs.YtcblibefmclloaaDoor

set_option linter.unusedVariables false
set_option linter.unusedSimpArgs false
/-! Plain mathematics: limited lengths are a complete code, and who comes more often has no longer code. -/
namespace Go.Proofs.YtcblibefmclloaaDoor
section
variable {α : Type} (f : α → Int)
def leB (x y : α) : Bool := decide (f x ≤ f y)
theorem mg_sme : ∀ (N : Nat) (xs ys : List α), xs.length + ys.length ≤ N → Srt f xs → Srt f ys → Srt f (List.merge xs ys (leB f)) ∧ Sme f (List.merge xs ys (leB f)) (xs ++ ys)
  | N, [], ys, _, _, hy => by
    rw [List.nil_merge]; exact ⟨hy, List.Perm.refl _, fun _ => rfl⟩
  | N, x :: xs, [], _, hx, _ => by
    rw [List.merge_right, List.append_nil]; exact ⟨hx, List.Perm.refl _, fun _ => rfl⟩
  | 0, x :: xs, y :: ys, h, _, _ => by simp at h
  | N + 1, x :: xs, y :: ys, h, hx, hy => by
    have hx' := List.pairwise_cons.1 hx
    have hy' := List.pairwise_cons.1 hy
    rw [List.cons_merge_cons]
    by_cases hle : f x ≤ f y
    · rw [if_pos (by simpa [leB] using hle)]
      obtain ⟨h1, h2, h3⟩ := mg_sme N xs (y :: ys) (by simp at h ⊢; omega) hx'.2 hy
      refine ⟨List.pairwise_cons.2 ⟨fun z hz => ?_, h1⟩, (List.perm_cons x).2 h2, fun v => ?_⟩
      · rcases List.mem_append.1 (h2.mem_iff.1 hz) with hz | hz
        · exact hx'.1 z hz
        · rcases List.mem_cons.1 hz with rfl | hz
          · exact hle
          · have := hy'.1 z hz; omega
      · rw [List.cons_append]
        by_cases e : f x = v
        · rw [List.filter_cons_of_pos (by simpa using e), List.filter_cons_of_pos (by simpa using e), h3]
        · rw [List.filter_cons_of_neg (by simpa using e), List.filter_cons_of_neg (by simpa using e), h3]
    · rw [if_neg (by simpa [leB] using hle)]
      obtain ⟨h1, h2, h3⟩ := mg_sme N (x :: xs) ys (by simp at h ⊢; omega) hx hy'.2
      refine ⟨List.pairwise_cons.2 ⟨fun z hz => ?_, h1⟩, ((List.perm_cons y).2 h2).trans List.perm_middle.symm, fun v => ?_⟩
      · rcases List.mem_append.1 (h2.mem_iff.1 hz) with hz | hz
        · rcases List.mem_cons.1 hz with rfl | hz
          · omega
          · have := hx'.1 z hz; omega
        · exact hy'.1 z hz
      · by_cases e : f y = v
        · rw [List.filter_cons_of_pos (by simpa using e), h3, List.filter_append, List.filter_append, List.filter_cons_of_pos (p := fun p => decide (f p = v)) (a := y) (by simpa using e)]
          have : List.filter (fun p => decide (f p = v)) (x :: xs) = [] := by
            rw [List.filter_eq_nil_iff]
            intro z hz
            have : f x ≤ f z := by
              rcases List.mem_cons.1 hz with rfl | hz
              · exact Int.le_refl _
              · exact hx'.1 z hz
            simp; omega
          rw [this]; rfl
        · rw [List.filter_cons_of_neg (by simpa using e), h3, List.filter_append, List.filter_append, List.filter_cons_of_neg (p := fun p => decide (f p = v)) (a := y) (by simpa using e)]
theorem sort_mg (xs ys : List α) (hx : Srt f xs) (hy : Srt f ys) : sortW f (xs ++ ys) [] = List.merge xs ys (leB f) := by
  obtain ⟨h1, h2⟩ := mg_sme f _ xs ys (Nat.le_refl _) hx hy
  exact (sortW_eq f h1 h2).symm
/-- The first of what is merged: the first of the one and the first of the other. -/
theorem mg_take : ∀ (N : Nat) (xs ys : List α), xs.length + ys.length ≤ N → Srt f xs → Srt f ys → ∀ a, a ≤ xs.length + ys.length → ∃ i j, i ≤ xs.length ∧ j ≤ ys.length ∧ i + j = a ∧
    ((List.merge xs ys (leB f)).take a).Perm (xs.take i ++ ys.take j) ∧ (∀ x ∈ xs.drop i, ∀ y ∈ ys.take j, f y < f x)
  | N, [], ys, _, _, _, a, ha => by
    rw [List.nil_merge]
    exact ⟨0, a, Nat.zero_le _, by simpa using ha, by omega, by simp, by simp⟩
  | N, x :: xs, [], _, _, _, a, ha => by
    rw [List.merge_right]
    exact ⟨a, 0, by simpa using ha, Nat.zero_le _, by omega, by simp, by simp⟩
  | 0, x :: xs, y :: ys, h, _, _, _, _ => by simp at h
  | N + 1, x :: xs, y :: ys, h, hx, hy, 0, _ => ⟨0, 0, Nat.zero_le _, Nat.zero_le _, rfl, by simp, by simp⟩
  | N + 1, x :: xs, y :: ys, h, hx, hy, a + 1, ha => by
    have hx' := List.pairwise_cons.1 hx
    have hy' := List.pairwise_cons.1 hy
    simp only [List.length_cons] at h ha
    rw [List.cons_merge_cons]
    by_cases hle : f x ≤ f y
    · rw [if_pos (by simpa [leB] using hle), List.take_succ_cons]
      obtain ⟨i, j, h1, h2, h3, h4, h5⟩ := mg_take N xs (y :: ys) (by simp only [List.length_cons]; omega) hx'.2 hy a (by simp only [List.length_cons]; omega)
      refine ⟨i + 1, j, by simp only [List.length_cons]; omega, h2, by omega, ?_, ?_⟩
      · rw [List.take_succ_cons, List.cons_append]; exact (List.perm_cons x).2 h4
      · rw [List.drop_succ_cons]; exact h5
    · rw [if_neg (by simpa [leB] using hle), List.take_succ_cons]
      obtain ⟨i, j, h1, h2, h3, h4, h5⟩ := mg_take N (x :: xs) ys (by simp only [List.length_cons]; omega) hx hy'.2 a (by simp only [List.length_cons]; omega)
      refine ⟨i, j + 1, h1, by simp only [List.length_cons]; omega, by omega, ?_, ?_⟩
      · rw [List.take_succ_cons]; exact ((List.perm_cons y).2 h4).trans List.perm_middle.symm
      · rw [List.take_succ_cons]
        intro z hz v hv
        rcases List.mem_cons.1 hv with rfl | hv
        · have hz' : z ∈ x :: xs := List.mem_of_mem_drop hz
          rcases List.mem_cons.1 hz' with rfl | hz'
          · omega
          · have := hx'.1 z hz'; omega
        · exact h5 z hz v hv
end
/-! Pairs of what is sorted. -/
theorem srt_pairs (l : List PP) (h : Srt Prod.fst l) : Srt Prod.fst (pairsF l) := by
  induction l using pairsF.induct with
  | case1 a b r ih =>
    rw [pairsF]
    have h1 := List.pairwise_cons.1 h
    have h2 := List.pairwise_cons.1 h1.2
    refine List.pairwise_cons.2 ⟨fun p hp => ?_, ih h2.2⟩
    have key : ∀ (l : List PP) (m : Int), (∀ x ∈ l, m ≤ x.1) → ∀ p ∈ pairsF l, m + m ≤ p.1 := by
      intro l m
      induction l using pairsF.induct with
      | case1 c d s ihs =>
        intro hm p hp
        rw [pairsF] at hp
        have hc := hm c (by simp)
        have hd := hm d (by simp)
        rcases List.mem_cons.1 hp with rfl | hp
        · simp only []; omega
        · exact ihs (fun x hx => hm x (by simp [hx])) p hp
      | case2 l hl => intro _ p hp; rw [pairsF_short hl] at hp; simp at hp
    have hab := h1.1 b (by simp)
    have := key r b.1 (fun x hx => h2.1 x hx) p hp
    simp only []; omega
  | case2 l hl => rw [pairsF_short hl]; exact List.Pairwise.nil
/-- Who lies in a package weighs less than it. -/
theorem pairs_cover (l : List PP) (hp : posP l) : ∀ j, j ≤ l.length / 2 → ∀ x ∈ l.take (2 * j), ∃ y ∈ (pairsF l).take j, x.1 < y.1 := by
  induction l using pairsF.induct with
  | case1 a b r ih =>
    intro j hj x hx
    match j with
    | 0 => simp at hx
    | j + 1 =>
      rw [show 2 * (j + 1) = (2 * j + 1) + 1 by omega, List.take_succ_cons, List.take_succ_cons] at hx
      rw [pairsF, List.take_succ_cons]
      have ha := (hp a (by simp)).1
      have hb := (hp b (by simp)).1
      simp only [List.mem_cons] at hx
      rcases hx with rfl | rfl | hx
      · exact ⟨_, List.mem_cons_self .., by simp only []; omega⟩
      · exact ⟨_, List.mem_cons_self .., by simp only []; omega⟩
      · obtain ⟨y, h1, h2⟩ := ih (fun p h => hp p (by simp [h])) j (by simp only [List.length_cons] at hj; omega) x hx
        exact ⟨y, List.mem_cons_of_mem _ h1, h2⟩
  | case2 l hl =>
    intro j hj x hx
    have : l.length / 2 = 0 := by rw [← pairsF_len, pairsF_short hl]; rfl
    obtain rfl : j = 0 := by omega
    simp at hx
theorem pairs_flat (l : List PP) : ∀ j, j ≤ l.length / 2 → ((pairsF l).take j).flatMap Prod.snd = (l.take (2 * j)).flatMap Prod.snd := by
  induction l using pairsF.induct with
  | case1 a b r ih =>
    intro j hj
    match j with
    | 0 => simp
    | j + 1 =>
      rw [show 2 * (j + 1) = (2 * j + 1) + 1 by omega, List.take_succ_cons, List.take_succ_cons, pairsF, List.take_succ_cons, List.flatMap_cons, List.flatMap_cons, List.flatMap_cons, ih j (by simp only [List.length_cons] at hj; omega), List.append_assoc]
  | case2 l hl =>
    intro j hj
    have : l.length / 2 = 0 := by rw [← pairsF_len, pairsF_short hl]; rfl
    obtain rfl : j = 0 := by omega
    simp
theorem pairs_few (M : Int) (l : List PP) (hp : posP l) : 2 * (pairsF l).countP (fun p => decide (p.1 < M)) ≤ l.countP (fun p => decide (p.1 < M)) := by
  induction l using pairsF.induct with
  | case1 a b r ih =>
    rw [pairsF]
    have ha := (hp a (by simp)).1
    have hb := (hp b (by simp)).1
    have := ih (fun p h => hp p (by simp [h]))
    rw [List.countP_cons, List.countP_cons, List.countP_cons]
    by_cases h : a.1 + b.1 < M
    · rw [if_pos (by simpa using h), if_pos (by simp; omega), if_pos (by simp; omega)]; omega
    · rw [if_neg (by simpa using h)]; omega
  | case2 l hl => rw [pairsF_short hl]; simp
/-! Which leaves a chosen start of a level holds, level by level. -/
def wid : List Nat → Nat
  | [] => 0
  | c :: r => c * 2 ^ r.length + wid r
theorem level_pos {lv : List PP} (h : posP lv) (t : Nat) : posP (levelF lv t) := (level_bd lv h t).1
theorem level_srt (lv : List PP) : ∀ t, Srt Prod.fst (levelF lv t)
  | 0 => List.Pairwise.nil
  | t + 1 => sortW_srt _ _
theorem level_cut {lv : List PP} (hs : Srt Prod.fst lv) (hp : posP lv) (t a : Nat) (ha : a ≤ (levelF lv (t + 1)).length) : ∃ i j, i ≤ lv.length ∧ j ≤ (levelF lv t).length / 2 ∧ i + j = a ∧
    ((levelF lv (t + 1)).take a).Perm (lv.take i ++ (pairsF (levelF lv t)).take j) ∧ (∀ x ∈ lv.drop i, ∀ y ∈ (pairsF (levelF lv t)).take j, y.1 < x.1) := by
  have e : levelF lv (t + 1) = List.merge lv (pairsF (levelF lv t)) (leB Prod.fst) := sort_mg Prod.fst lv _ hs (srt_pairs _ (level_srt lv t))
  have hl : (levelF lv (t + 1)).length = lv.length + (pairsF (levelF lv t)).length := by rw [levelF, sortP_len, List.length_append]
  rw [hl] at ha
  rw [e]
  obtain ⟨i, j, h1, h2, h3, h4, h5⟩ := mg_take Prod.fst _ lv (pairsF (levelF lv t)) (Nat.le_refl _) hs (srt_pairs _ (level_srt lv t)) a ha
  rw [pairsF_len] at h2
  exact ⟨i, j, h1, h2, h3, h4, h5⟩
theorem level_shape {lv : List PP} (hs : Srt Prod.fst lv) (hp : posP lv) : ∀ t a, a ≤ (levelF lv t).length → ∃ cs : List Nat, cs.length = t ∧ cs.Pairwise (fun x y => y ≤ x) ∧ (∀ c ∈ cs, c ≤ lv.length) ∧
    (((levelF lv t).take a).flatMap Prod.snd).Perm (cs.flatMap fun c => (lv.take c).flatMap Prod.snd) ∧ 2 * wid cs = a * 2 ^ t ∧ (∀ x ∈ lv.take (cs.headD 0), x ∈ (levelF lv t).take a) ∧
    (t ≠ 0 → ∀ x ∈ lv.drop (cs.headD 0), ∀ y ∈ (pairsF (levelF lv (t - 1))).take (a - cs.headD 0), y.1 < x.1) ∧ (t ≠ 0 → a - cs.headD 0 ≤ (levelF lv (t - 1)).length / 2)
  | 0, a, ha => by
    obtain rfl : a = 0 := by simpa [levelF] using ha
    exact ⟨[], rfl, List.Pairwise.nil, by simp, by simp, by simp [wid], by simp, fun h => absurd rfl h, fun h => absurd rfl h⟩
  | t + 1, a, ha => by
    obtain ⟨i, j, h1, h2, h3, h4, h5⟩ := level_cut hs hp t a ha
    obtain ⟨r, r1, r2, r3, r4, r5, r6, _, _⟩ := level_shape hs hp t (2 * j) (by omega)
    have hhead : ∀ c ∈ r, c ≤ r.headD 0 := by
      intro c hc
      match r, r2, hc with
      | d :: r, r2, hc =>
        rcases List.mem_cons.1 hc with rfl | hc
        · exact Nat.le_refl _
        · exact (List.pairwise_cons.1 r2).1 c hc
    have hnest : r.headD 0 ≤ i := by
      rcases Nat.lt_or_ge i (r.headD 0) with hlt | hge
      · exfalso
        have hle : r.headD 0 ≤ lv.length := by
          match r, r3 with
          | [], _ => exact Nat.zero_le _
          | d :: r, r3 => exact r3 d (by simp)
        have hi : i < lv.length := by omega
        have m1 : lv[i] ∈ lv.take (r.headD 0) := by
          rw [List.mem_take_iff_getElem]
          exact ⟨i, by omega, rfl⟩
        have m2 : lv[i] ∈ lv.drop i := by
          rw [List.drop_eq_getElem_cons hi]; exact List.mem_cons_self ..
        obtain ⟨y, hy, hlt2⟩ := pairs_cover _ (level_pos hp t) j h2 _ (r6 _ m1)
        have := h5 _ m2 y hy
        omega
      · exact hge
    refine ⟨i :: r, by rw [List.length_cons, r1], List.pairwise_cons.2 ⟨fun c hc => Nat.le_trans (hhead c hc) hnest, r2⟩, ?_, ?_, ?_, ?_, ?_, ?_⟩
    · intro c hc
      rcases List.mem_cons.1 hc with rfl | hc
      · exact h1
      · exact r3 c hc
    · rw [List.flatMap_cons]
      refine (h4.flatMap_right _).trans ?_
      rw [List.flatMap_append, pairs_flat _ j h2]
      exact r4.append_left _
    · rw [wid, r1, Nat.mul_add, r5, ← h3, Nat.pow_succ, Nat.add_mul, Nat.mul_comm 2 (i * 2 ^ t), Nat.mul_assoc i, Nat.mul_comm 2 j, Nat.mul_assoc j, Nat.mul_comm 2 (2 ^ t)]
    · intro x hx
      exact h4.mem_iff.2 (List.mem_append_left _ hx)
    · intro _ x hx y hy
      simp only [List.headD_cons, Nat.add_sub_cancel] at hx hy
      rw [show a - i = j by omega] at hy
      exact h5 x hx y hy
    · intro _
      simp only [List.headD_cons, Nat.add_sub_cancel]
      omega
/-- Few packages weigh less than the heaviest leaf. -/
theorem few_below {lv : List PP} (hp : posP lv) (M : Int) (h2 : 2 ≤ lv.length) (hM : ∃ x ∈ lv, M ≤ x.1) : ∀ t, (pairsF (levelF lv t)).countP (fun p => decide (p.1 < M)) ≤ lv.length - 2
  | 0 => by simp [levelF, pairsF]
  | t + 1 => by
    have ih := few_below hp M h2 hM t
    have h := pairs_few M (levelF lv (t + 1)) (level_pos hp (t + 1))
    have e : (levelF lv (t + 1)).countP (fun p => decide (p.1 < M)) = lv.countP (fun p => decide (p.1 < M)) + (pairsF (levelF lv t)).countP (fun p => decide (p.1 < M)) := by
      rw [levelF, (sortP_perm _).countP_eq, List.countP_append]
    have hl : lv.countP (fun p => decide (p.1 < M)) < lv.length := by
      obtain ⟨x, hx, hMx⟩ := hM
      refine Nat.lt_of_le_of_ne List.countP_le_length (fun he => ?_)
      have := List.countP_eq_length.1 he x hx
      simp at this; omega
    omega
/-- All leaves are chosen at the top. -/
theorem top_all {lv : List PP} (hs : Srt Prod.fst lv) (hp : posP lv) (t : Nat) (h2 : 2 ≤ lv.length) {c j : Nat} (hc : c ≤ lv.length) (hj : c + j = 2 * lv.length - 2) (hjl : j ≤ (levelF lv t).length / 2)
    (hx : ∀ x ∈ lv.drop c, ∀ y ∈ (pairsF (levelF lv t)).take j, y.1 < x.1) : c = lv.length := by
  rcases Nat.lt_or_ge c lv.length with hlt | hge
  · exfalso
    have m2 : lv[c] ∈ lv.drop c := by rw [List.drop_eq_getElem_cons hlt]; exact List.mem_cons_self ..
    have hn := few_below hp (lv[lv.length - 1].1) h2 ⟨_, List.getElem_mem _, Int.le_refl _⟩ t
    have hle : lv[c].1 ≤ lv[lv.length - 1].1 := by
      rcases Nat.lt_or_ge c (lv.length - 1) with h | h
      · exact (List.pairwise_iff_getElem.1 hs) c (lv.length - 1) hlt (by omega) h
      · have : c = lv.length - 1 := by omega
        subst this; exact Int.le_refl _
    have hall : ((pairsF (levelF lv t)).take j).countP (fun p => decide (p.1 < lv[lv.length - 1].1)) = j := by
      rw [List.countP_eq_length.2 (fun y hy => by
        have := hx _ m2 y hy
        simp only [decide_eq_true_eq]; omega), List.length_take, pairsF_len]
      omega
    have := (List.take_sublist j (pairsF (levelF lv t))).countP_le (p := fun p => decide (p.1 < lv[lv.length - 1].1))
    omega
  · omega
end Go.Proofs.YtcblibefmclloaaDoor

set_option linter.unusedVariables false
set_option linter.unusedSimpArgs false
/-! Plain mathematics: the lengths of package-merge, one by one. -/
namespace Go.Proofs.YtcblibefmclloaaDoor
def sumR : Nat → (Nat → Nat) → Nat
  | 0, _ => 0
  | n + 1, g => sumR n g + g n
theorem sumR_congr {g h : Nat → Nat} : ∀ n, (∀ q, q < n → g q = h q) → sumR n g = sumR n h
  | 0, _ => rfl
  | n + 1, e => by rw [sumR, sumR, sumR_congr n (fun q hq => e q (by omega)), e n (by omega)]
theorem sumR_add (g h : Nat → Nat) : ∀ n, sumR n (fun q => g q + h q) = sumR n g + sumR n h
  | 0 => rfl
  | n + 1 => by rw [sumR, sumR, sumR, sumR_add g h n]; omega
theorem sumR_mul (K : Nat) (g : Nat → Nat) : ∀ n, sumR n (fun q => K * g q) = K * sumR n g
  | 0 => rfl
  | n + 1 => by rw [sumR, sumR, sumR_mul K g n, Nat.mul_add]
theorem sumR_const (K : Nat) : ∀ n, sumR n (fun _ => K) = n * K
  | 0 => by simp [sumR]
  | n + 1 => by rw [sumR, sumR_const K n, Nat.succ_mul]
theorem sumR_from (K c : Nat) : ∀ n, c ≤ n → sumR n (fun q => if q < c then 0 else K) = (n - c) * K
  | 0, _ => by simp [sumR]
  | n + 1, h => by
    rw [sumR]
    by_cases hc : c ≤ n
    · rw [sumR_from K c n hc, if_neg (by omega), show n + 1 - c = (n - c) + 1 by omega, Nat.succ_mul]
    · obtain rfl : c = n + 1 := by omega
      rw [sumR_congr n (h := fun _ => 0) (fun q hq => by simp; omega), sumR_const, if_pos (by omega)]; simp
theorem sumR_range (g : Nat → Nat) : ∀ n, ((List.range n).map g).sum = sumR n g
  | 0 => rfl
  | n + 1 => by rw [List.range_succ, List.map_append, List.sum_append, sumR_range g n, sumR]; simp
/-- How many of these are greater. -/
def ell (cs : List Nat) (q : Nat) : Nat := cs.countP fun c => decide (q < c)
theorem ell_le (cs : List Nat) (q : Nat) : ell cs q ≤ cs.length := List.countP_le_length
theorem ell_cons (c : Nat) (r : List Nat) (q : Nat) : ell (c :: r) q = ell r q + if q < c then 1 else 0 := by
  unfold ell; rw [List.countP_cons]; simp
theorem ell_anti (cs : List Nat) (q q' : Nat) (h : q ≤ q') : ell cs q' ≤ ell cs q := by
  induction cs with
  | nil => exact Nat.le_refl _
  | cons c r ih =>
    rw [ell_cons, ell_cons]
    by_cases h1 : q' < c
    · rw [if_pos h1, if_pos (by omega)]; omega
    · rw [if_neg h1]; omega
theorem wid_ell (n : Nat) : ∀ cs : List Nat, cs.Pairwise (fun x y => y ≤ x) → (∀ c ∈ cs, c ≤ n) → wid cs + sumR n (fun q => 2 ^ (cs.length - ell cs q)) = n * 2 ^ cs.length
  | [], _, _ => by
    rw [wid, sumR_congr n (h := fun _ => 1) (fun q _ => by simp), sumR_const]; simp
  | c :: r, hp, hc => by
    have hp' := List.pairwise_cons.1 hp
    have ih := wid_ell n r hp'.2 (fun d hd => hc d (by simp [hd]))
    have e : sumR n (fun q => 2 ^ ((c :: r).length - ell (c :: r) q)) = sumR n (fun q => 2 ^ (r.length - ell r q) + if q < c then 0 else 2 ^ r.length) := by
      refine sumR_congr n fun q hq => ?_
      rw [ell_cons, List.length_cons]
      by_cases h : q < c
      · rw [if_pos h, if_pos h, show r.length + 1 - (ell r q + 1) = r.length - ell r q by omega]; rfl
      · rw [if_neg h, if_neg h]
        have h0 : ell r q = 0 := by
          unfold ell
          rw [List.countP_eq_zero]
          intro d hd
          have := hp'.1 d hd
          simp; omega
        rw [h0, Nat.add_zero, Nat.sub_zero, Nat.sub_zero, Nat.pow_succ]; omega
    rw [e, sumR_add, sumR_from _ c n (hc c (by simp)), wid, List.length_cons, Nat.pow_succ]
    have h3 : c * 2 ^ r.length + (n - c) * 2 ^ r.length = n * 2 ^ r.length := by
      rw [← Nat.add_mul]; congr 1; have := hc c (by simp); omega
    have h4 : n * (2 ^ r.length * 2) = n * 2 ^ r.length + n * 2 ^ r.length := by rw [← Nat.mul_assoc]; omega
    omega
/-! Symbols of leaves. -/
def One (lv : List PP) : Prop := ∀ p ∈ lv, ∃ s : Nat, p.2 = [(s : Int)]
theorem flat_take (lv : List PP) (h : One lv) : ∀ c, (lv.take c).flatMap Prod.snd = (lv.flatMap Prod.snd).take c := by
  induction lv with
  | nil => intro c; simp
  | cons p r ih =>
    intro c
    match c with
    | 0 => simp
    | c + 1 =>
      obtain ⟨s, hs⟩ := h p (by simp)
      rw [List.take_succ_cons, List.flatMap_cons, List.flatMap_cons, hs, ih (fun x hx => h x (by simp [hx]))]; rfl
theorem flat_one_len (lv : List PP) (h : One lv) : (lv.flatMap Prod.snd).length = lv.length := by
  induction lv with
  | nil => rfl
  | cons p r ih =>
    obtain ⟨s, hs⟩ := h p (by simp)
    rw [List.flatMap_cons, hs, List.length_append, ih (fun x hx => h x (by simp [hx]))]; simp; omega
theorem flat_one_get (lv : List PP) (h : One lv) : ∀ q (hq : q < lv.length) (s : Nat), lv[q].2 = [(s : Int)] → (lv.flatMap Prod.snd)[q]? = some (s : Int) := by
  induction lv with
  | nil => intro q hq; simp at hq
  | cons p r ih =>
    intro q hq s hs
    obtain ⟨s0, hs0⟩ := h p (by simp)
    rw [List.flatMap_cons, hs0]
    match q with
    | 0 =>
      simp only [List.getElem_cons_zero] at hs
      rw [hs0] at hs; injection hs with hs; rw [← hs]; rfl
    | q + 1 =>
      simp only [List.getElem_cons_succ] at hs
      exact ih (fun x hx => h x (by simp [hx])) q (by simpa using hq) s hs
theorem count_take (sy : List Int) (hn : sy.Pairwise (fun a b => a ≠ b)) : ∀ q s, sy[q]? = some s → ∀ c, (sy.take c).count s = if q < c then 1 else 0 := by
  induction sy with
  | nil => intro q s h; simp at h
  | cons x xs ih =>
    intro q s h c
    have hn' := List.pairwise_cons.1 hn
    match c with
    | 0 => simp
    | c + 1 =>
      rw [List.take_succ_cons, List.count_cons]
      match q with
      | 0 =>
        obtain rfl : x = s := by simpa using h
        have : List.count x (xs.take c) = 0 := List.count_eq_zero.2 fun hm => hn'.1 x (List.mem_of_mem_take hm) rfl
        rw [this]; simp
      | q + 1 =>
        have h' : xs[q]? = some s := by simpa using h
        rw [ih hn'.2 q s h' c]
        have : x ≠ s := hn'.1 s (List.mem_of_getElem? h')
        rw [show (x == s) = false by simpa using this]
        simp
theorem count_flat (sy : List Int) (hn : sy.Pairwise (fun a b => a ≠ b)) (q : Nat) (s : Int) (h : sy[q]? = some s) (cs : List Nat) : (cs.flatMap fun c => sy.take c).count s = ell cs q := by
  induction cs with
  | nil => rfl
  | cons c r ih =>
    rw [List.flatMap_cons, List.count_append, ih, ell_cons, count_take sy hn q s h c]; omega
theorem leaf_mem (cs : List Int) : ∀ k, k ≤ cs.length → ∀ p : PP, p ∈ leavesF (cs.take k) 0 ↔ ∃ i, i < k ∧ 0 < nth cs i ∧ p = (nth cs i, [(i : Int)])
  | 0, _, p => by simp [leavesF]
  | k + 1, h, p => by
    rw [take_snoc' cs k (by omega), leavesF_snoc, List.mem_append, leaf_mem cs k (by omega) p, List.length_take, Nat.min_eq_left (by omega), Nat.zero_add]
    constructor
    · rintro (⟨i, h1, h2, h3⟩ | h1)
      · exact ⟨i, by omega, h2, h3⟩
      · split at h1
        · next h0 => exact ⟨k, by omega, h0, by simpa using h1⟩
        · simp at h1
    · rintro ⟨i, h1, h2, h3⟩
      by_cases hi : i = k
      · subst hi; rw [if_pos h2]; exact .inr (by simpa using h3)
      · exact .inl ⟨i, by omega, h2, h3⟩
theorem leaf_sum (cs : List Int) (g : PP → Nat) : ∀ k, k ≤ cs.length → ((leavesF (cs.take k) 0).map g).sum = sumR k (fun i => if 0 < nth cs i then g (nth cs i, [(i : Int)]) else 0)
  | 0, _ => by simp [leavesF, sumR]
  | k + 1, h => by
    rw [take_snoc' cs k (by omega), leavesF_snoc, List.map_append, List.sum_append, leaf_sum cs g k (by omega), List.length_take, Nat.min_eq_left (by omega), Nat.zero_add, sumR]
    by_cases h0 : 0 < nth cs k
    · rw [if_pos h0, if_pos h0]; simp
    · rw [if_neg h0, if_neg h0]; simp
theorem leaf_syms (cs : List Int) : ∀ k, k ≤ cs.length → ((leavesF (cs.take k) 0).flatMap Prod.snd).Pairwise (fun a b => a ≠ b) ∧ ∀ s ∈ (leavesF (cs.take k) 0).flatMap Prod.snd, s < k
  | 0, _ => by simp [leavesF]
  | k + 1, h => by
    obtain ⟨h1, h2⟩ := leaf_syms cs k (by omega)
    rw [take_snoc' cs k (by omega), leavesF_snoc, List.flatMap_append, List.length_take, Nat.min_eq_left (by omega), Nat.zero_add]
    by_cases h0 : 0 < nth cs k
    · rw [if_pos h0]
      simp only [List.flatMap_cons, List.flatMap_nil, List.append_nil]
      refine ⟨List.pairwise_append.2 ⟨h1, List.pairwise_singleton _ _, fun a ha b hb => ?_⟩, fun s hs => ?_⟩
      · have := h2 a ha
        rw [List.mem_singleton.1 hb]; omega
      · rcases List.mem_append.1 hs with hs | hs
        · have := h2 s hs; push_cast; omega
        · rw [List.mem_singleton.1 hs]; push_cast; omega
    · rw [if_neg h0]
      simp only [List.flatMap_nil, List.append_nil]
      exact ⟨h1, fun s hs => by have := h2 s hs; push_cast; omega⟩
theorem list_sumR {α : Type} (g : α → Nat) (d : α) : ∀ l : List α, (l.map g).sum = sumR l.length (fun q => g (l.getD q d)) := by
  intro l
  have key : ∀ k, k ≤ l.length → ((l.take k).map g).sum = sumR k (fun q => g (l.getD q d)) := by
    intro k
    induction k with
    | zero => intro _; simp [sumR]
    | succ k ih =>
      intro h
      rw [List.take_succ_eq_append_getElem (by omega), List.map_append, List.sum_append, ih (by omega), sumR]
      simp [List.getD, show k < l.length by omega]
  have := key l.length (Nat.le_refl _)
  rwa [List.take_length] at this
/-- The lengths: by the leaves' places. -/
theorem lim_at (cs : List Int) (t : Nat) (hp : posP (leavesF cs 0)) (h2 : 2 ≤ (leavesF cs 0).length) (ht : (leavesF cs 0).length ≤ 2 ^ t) :
    ∃ E : List Nat, E.length = t ∧ (∀ q, q < (leavesF cs 0).length → 1 ≤ ell E q) ∧ sumR (leavesF cs 0).length (fun q => 2 ^ (t - ell E q)) = 2 ^ t ∧
      (∀ i, i < cs.length → ¬ 0 < nth cs i → nth (limLens cs t) i = 0) ∧
      (∀ q (hq : q < (sortP (leavesF cs 0)).length) (i : Nat), (sortP (leavesF cs 0))[q] = (nth cs i, [(i : Int)]) → i < cs.length → nth (limLens cs t) i = (ell E q : Nat)) := by
  obtain ⟨lv, hlv⟩ : ∃ lv, lv = sortP (leavesF cs 0) := ⟨_, rfl⟩
  have hperm : lv.Perm (leavesF cs 0) := by rw [hlv]; exact sortP_perm _
  have hlen : lv.length = (leavesF cs 0).length := hperm.length_eq
  have hsrt : Srt Prod.fst lv := by rw [hlv]; exact sortW_srt _ _
  have hpos : posP lv := posP_perm hperm hp
  have htk : cs.take cs.length = cs := List.take_length
  have hmem := leaf_mem cs cs.length (Nat.le_refl _)
  rw [htk] at hmem
  have hone : One lv := fun p hpm => by
    obtain ⟨i, _, _, e⟩ := (hmem p).1 (hperm.mem_iff.1 hpm)
    exact ⟨i, by rw [e]⟩
  have hsy0 := (leaf_syms cs cs.length (Nat.le_refl _)).1
  rw [htk] at hsy0
  have hsy : (lv.flatMap Prod.snd).Pairwise (fun a b => a ≠ b) := (hperm.symm.flatMap_right Prod.snd).pairwise hsy0 (fun h => h.symm)
  have hcut := level_len (leavesF cs 0) t h2 ht
  rw [← hlv] at hcut
  have ht1 : t ≠ 0 := by rintro rfl; simp at ht; omega
  obtain ⟨E, e1, e2, e3, e4, e5, e6, e7, e8⟩ := level_shape hsrt hpos t (2 * (leavesF cs 0).length - 2) hcut
  have hhd : E.headD 0 ≤ lv.length := by
    match E, e3 with
    | [], _ => exact Nat.zero_le _
    | d :: r, e3 => exact e3 d (by simp)
  have hhle : E.headD 0 ≤ 2 * (leavesF cs 0).length - 2 := by omega
  have htop := top_all hsrt hpos (t - 1) (by omega) hhd (j := 2 * (leavesF cs 0).length - 2 - E.headD 0) (by omega) (e8 ht1) (e7 ht1)
  have hS : limLens cs t = cntF cs.length (((levelF lv t).take (2 * (leavesF cs 0).length - 2)).flatMap Prod.snd) := by
    unfold limLens; rw [if_neg (by omega), ← hlv]
  have e4' : (((levelF lv t).take (2 * (leavesF cs 0).length - 2)).flatMap Prod.snd).Perm (E.flatMap fun c => (lv.flatMap Prod.snd).take c) := by
    refine e4.trans (List.Perm.of_eq ?_)
    have : (fun c => (lv.take c).flatMap Prod.snd) = fun c => (lv.flatMap Prod.snd).take c := funext (flat_take lv hone)
    rw [this]
  refine ⟨E, e1, fun q hq => ?_, ?_, fun i hi h0 => ?_, fun q hq i hi hil => ?_⟩
  · match E, htop with
    | [], htop => simp at htop; omega
    | d :: r, htop =>
      simp only [List.headD_cons] at htop
      rw [ell_cons, if_pos (by omega)]; omega
  · have hw := wid_ell lv.length E e2 e3
    rw [e1, hlen] at hw
    have h5 : wid E = ((leavesF cs 0).length - 1) * 2 ^ t := by
      have : 2 * wid E = 2 * (((leavesF cs 0).length - 1) * 2 ^ t) := by
        rw [e5, ← Nat.mul_assoc]; congr 1; omega
      omega
    rw [h5] at hw
    have h6 : (leavesF cs 0).length * 2 ^ t = ((leavesF cs 0).length - 1) * 2 ^ t + 2 ^ t := by
      rw [← Nat.succ_mul]; congr 1; omega
    omega
  · rw [hS, cntF_nth _ _ _ hi, e4'.count_eq]
    have : List.count (i : Int) (E.flatMap fun c => (lv.flatMap Prod.snd).take c) = 0 := by
      refine List.count_eq_zero.2 fun hm => ?_
      obtain ⟨c, _, hc⟩ := List.mem_flatMap.1 hm
      obtain ⟨p, hp1, hp2⟩ := List.mem_flatMap.1 (List.mem_of_mem_take hc)
      obtain ⟨k, hk1, hk2, rfl⟩ := (hmem p).1 (hperm.mem_iff.1 hp1)
      have : (i : Int) = k := by simpa using hp2
      obtain rfl : i = k := by omega
      exact h0 hk2
    rw [this]; rfl
  · subst hlv
    rw [hS, cntF_nth _ _ _ hil, e4'.count_eq, count_flat _ hsy q (i : Int) (flat_one_get _ hone q hq i (by rw [hi])) E]
end Go.Proofs.YtcblibefmclloaaDoor

set_option linter.unusedVariables false
set_option linter.unusedSimpArgs false
/-! Plain mathematics: limited lengths pass the check; who comes more often has no longer code. -/
namespace Go.Proofs.YtcblibefmclloaaDoor
theorem limLens_len (cs : List Int) (t : Nat) : (limLens cs t).length = cs.length := by unfold limLens; rw [cntF_len]
theorem lim_nn (cs : List Int) (t i : Nat) (h : i < cs.length) : 0 ≤ nth (limLens cs t) i := by
  unfold limLens; exact (cnt_bd _ _ _ h).1
theorem leaf_mem' (cs : List Int) (p : PP) : p ∈ leavesF cs 0 ↔ ∃ i, i < cs.length ∧ 0 < nth cs i ∧ p = (nth cs i, [(i : Int)]) := by
  have h := leaf_mem cs cs.length (Nat.le_refl _) p
  rwa [List.take_length] at h
theorem leaf_place (cs : List Int) (i : Nat) (h : i < cs.length) (h0 : 0 < nth cs i) : ∃ q, ∃ hq : q < (sortP (leavesF cs 0)).length, (sortP (leavesF cs 0))[q] = (nth cs i, [(i : Int)]) := by
  have hm := (sortP_perm _).mem_iff.2 ((leaf_mem' cs (nth cs i, [(i : Int)])).2 ⟨i, h, h0, rfl⟩)
  obtain ⟨q, hq, e⟩ := List.getElem_of_mem hm
  exact ⟨q, hq, e⟩
theorem lim_meas (cs : List Int) (t : Nat) (ht15 : t ≤ 15) (hp : posP (leavesF cs 0)) (h2 : 2 ≤ (leavesF cs 0).length) (ht : (leavesF cs 0).length ≤ 2 ^ t) : measF (limLens cs t) = 32768 := by
  obtain ⟨E, e1, e2, e3, e4, e5⟩ := lim_at cs t hp h2 ht
  unfold measF
  rw [list_sumR part 0, limLens_len]
  have a1 : sumR cs.length (fun q => part ((limLens cs t).getD q 0)) = sumR cs.length (fun i => if 0 < nth cs i then (fun p : PP => part (nth (limLens cs t) (p.2.headD 0).toNat)) (nth cs i, [(i : Int)]) else 0) := by
    refine sumR_congr _ fun q hq => ?_
    show part (nth (limLens cs t) q) = _
    by_cases h0 : 0 < nth cs q
    · rw [if_pos h0]; simp
    · rw [if_neg h0, e4 q hq h0]; rfl
  have a2 := leaf_sum cs (fun p : PP => part (nth (limLens cs t) (p.2.headD 0).toNat)) cs.length (Nat.le_refl _)
  rw [List.take_length] at a2
  rw [a1, ← a2, ← ((sortP_perm (leavesF cs 0)).map _).sum_nat, list_sumR _ (0, [])]
  have a3 : sumR (sortP (leavesF cs 0)).length (fun q => part (nth (limLens cs t) (((sortP (leavesF cs 0)).getD q (0, [])).2.headD 0).toNat)) = sumR (sortP (leavesF cs 0)).length (fun q => 2 ^ (15 - t) * 2 ^ (t - ell E q)) := by
    refine sumR_congr _ fun q hq => ?_
    have hm : (sortP (leavesF cs 0))[q] ∈ leavesF cs 0 := (sortP_perm _).mem_iff.1 (List.getElem_mem hq)
    obtain ⟨i, h1, h3, h4⟩ := (leaf_mem' cs _).1 hm
    have hd : (sortP (leavesF cs 0)).getD q (0, []) = (nth cs i, [(i : Int)]) := by rw [← h4]; simp [List.getD, hq]
    rw [hd]
    simp only [List.headD_cons, Int.toNat_natCast]
    rw [e5 q hq i h4 h1]
    have hl := ell_le E q
    have hge := e2 q (by rwa [sortP_len] at hq)
    unfold part
    rw [if_pos (by omega), ← Nat.pow_add]
    congr 1; omega
  rw [a3, sumR_mul, sortP_len, e3, ← Nat.pow_add, show 15 - t + t = 15 by omega]
theorem lim_ok (cs : List Int) (t : Nat) (ht15 : t ≤ 15) (hp : posP (leavesF cs 0)) (h2 : 2 ≤ (leavesF cs 0).length) (ht : (leavesF cs 0).length ≤ 2 ^ t) (i : Nat) (hi : i < cs.length) :
    (0 < nth (limLens cs t) i ↔ 0 < nth cs i) ∧ nth (limLens cs t) i ≤ t := by
  obtain ⟨E, e1, e2, e3, e4, e5⟩ := lim_at cs t hp h2 ht
  by_cases h0 : 0 < nth cs i
  · obtain ⟨q, hq, e⟩ := leaf_place cs i hi h0
    have hl := ell_le E q
    have hge := e2 q (by rwa [sortP_len] at hq)
    rw [e5 q hq i e hi]
    exact ⟨⟨fun _ => h0, fun _ => by omega⟩, by omega⟩
  · rw [e4 i hi h0]
    exact ⟨⟨fun h => by omega, fun h => absurd h h0⟩, by omega⟩
theorem all_nth (l : List Int) (h : ∀ i, i < l.length → okLen (nth l i) = true) : l.all okLen = true := by
  rw [List.all_eq_true]
  intro x hx
  obtain ⟨i, hi, rfl⟩ := List.getElem_of_mem hx
  have := h i hi
  rwa [nth_lt hi] at this
theorem lim_check (cs : List Int) (t : Nat) (ht15 : t ≤ 15) (h1 : 1 ≤ cs.length) (h288 : cs.length ≤ 288) (hp : posP (leavesF cs 0)) (h2 : 2 ≤ (leavesF cs 0).length) (ht : (leavesF cs 0).length ≤ 2 ^ t) : checkF (limLens cs t) = 0 := by
  unfold checkF
  rw [limLens_len, if_neg (by omega), all_nth (limLens cs t) (fun i hi => by
    rw [limLens_len] at hi
    have a := lim_nn cs t i hi
    have b := (lim_ok cs t ht15 hp h2 ht i hi).2
    unfold okLen
    simp only [Bool.and_eq_true, decide_eq_true_eq]
    omega), if_neg (by simp), lim_meas cs t ht15 hp h2 ht]
  rfl
/-- Who comes more often has no longer code. -/
theorem lim_fair (cs : List Int) (t : Nat) (hp : posP (leavesF cs 0)) (h2 : 2 ≤ (leavesF cs 0).length) (ht : (leavesF cs 0).length ≤ 2 ^ t) (i k : Nat) (hi : i < cs.length) (hk : k < cs.length) (h0 : 0 < nth cs i) (h : nth cs i < nth cs k) :
    nth (limLens cs t) k ≤ nth (limLens cs t) i := by
  obtain ⟨E, e1, e2, e3, e4, e5⟩ := lim_at cs t hp h2 ht
  obtain ⟨q, hq, e⟩ := leaf_place cs i hi h0
  obtain ⟨r, hr, e'⟩ := leaf_place cs k hk (by omega)
  rw [e5 q hq i e hi, e5 r hr k e' hk]
  have hqr : q ≤ r := by
    rcases Nat.lt_or_ge r q with hlt | hge
    · exfalso
      have := (List.pairwise_iff_getElem.1 (show Srt Prod.fst (sortP (leavesF cs 0)) from sortW_srt _ _)) r q hr hq hlt
      rw [e', e] at this
      simp only [] at this; omega
    · exact hge
  have := ell_anti E q r hqr
  omega
/-- One symbol alone. -/
theorem lim_one (cs : List Int) (t : Nat) (h : (leavesF cs 0).length = 1) : ∃ s, s < cs.length ∧ 0 < nth cs s ∧ (∀ i, i < cs.length → 0 < nth cs i → i = s) ∧ ∀ i, i < cs.length → nth (limLens cs t) i = if i = s then 1 else 0 := by
  obtain ⟨p, hp⟩ := List.length_eq_one_iff.1 h
  obtain ⟨s, h1, h2, h3⟩ := (leaf_mem' cs p).1 (by rw [hp]; simp)
  refine ⟨s, h1, h2, fun i hi h0 => ?_, fun i hi => ?_⟩
  · have := (leaf_mem' cs _).2 ⟨i, hi, h0, rfl⟩
    rw [hp, List.mem_singleton, h3] at this
    have := congrArg Prod.snd this
    simp at this; omega
  · unfold limLens
    rw [if_pos (by omega), hp, cntF_nth _ _ _ hi, h3]
    simp only [List.flatMap_cons, List.flatMap_nil, List.append_nil, List.count_cons, List.count_nil]
    by_cases e : i = s
    · subst e; simp
    · rw [if_neg e, if_neg (by simp; omega)]; rfl
theorem lim_none (cs : List Int) (t : Nat) (h : (leavesF cs 0).length = 0) (i : Nat) (hi : i < cs.length) : nth (limLens cs t) i = 0 ∧ ¬ 0 < nth cs i := by
  have he := List.length_eq_zero_iff.1 h
  constructor
  · unfold limLens
    rw [if_pos (by omega), he, cntF_nth _ _ _ hi]; rfl
  · intro h0
    have := (leaf_mem' cs _).2 ⟨i, hi, h0, rfl⟩
    rw [he] at this; simp at this
theorem lim_check1 (cs : List Int) (t : Nat) (h1 : 1 ≤ cs.length) (h288 : cs.length ≤ 288) (h : (leavesF cs 0).length = 1) : checkF (limLens cs t) = 0 := by
  obtain ⟨s, a, b, c, d⟩ := lim_one cs t h
  have hl := limLens_len cs t
  generalize limLens cs t = l at *
  have key : ∀ k, k ≤ l.length → usedF (l.take k) = (if s < k then 1 else 0) ∧ measF (l.take k) = (if s < k then 16384 else 0) := by
    intro k
    induction k with
    | zero => intro _; simp [usedF, measF]
    | succ k ih =>
      intro hk
      obtain ⟨i1, i2⟩ := ih (by omega)
      rw [usedF_snoc l k (by omega), measF_snoc l k (by omega), i1, i2, d k (by omega)]
      have p1 : part 1 = 16384 := rfl
      have p0 : part 0 = 0 := rfl
      by_cases e : k = s
      · subst e; simp [p1]
      · rw [if_neg e]
        by_cases e2 : s < k
        · simp [p0, e2, show s < k + 1 by omega]
        · simp [p0, e2, show ¬ s < k + 1 by omega]
  obtain ⟨k1, k2⟩ := key l.length (Nat.le_refl _)
  rw [List.take_length, if_pos (by omega)] at k1 k2
  unfold checkF
  rw [hl, if_neg (by omega), all_nth l (fun i hi => by
    rw [d i (by omega)]
    split <;> decide), if_neg (by simp), k1, k2]
  rfl
end Go.Proofs.YtcblibefmclloaaDoor

set_option linter.unusedVariables false
set_option linter.unusedSimpArgs false
/-! Plain mathematics: the reference's least sum is what the lengths cost. -/
namespace Go.Proofs.YtcblibefmclloaaDoor
/-- A rising list with one more. -/
def withF (x : Int) (l : List Int) : List Int := insW id x l
def pairSum : List Int → List Int
  | a :: b :: r => (a + b) :: pairSum r
  | _ => []
def leastLv (lv : List Int) : Nat → List Int
  | 0 => []
  | t + 1 => sortW id (pairSum (leastLv lv t)) lv
def posL (cs : List Int) : List Int := cs.filter fun x => decide (0 < x)
def leavesS (cs : List Int) : List Int := sortW id (posL cs) []
def leastF (cs : List Int) (t : Nat) : Int := ((leastLv (leavesS cs) t).take (2 * (leavesS cs).length - 2)).sum
theorem sortW_snoc {α : Type} (f : α → Int) (l : List α) (x : α) : ∀ acc, sortW f (l ++ [x]) acc = insW f x (sortW f l acc) := by
  induction l with
  | nil => intro acc; rfl
  | cons p r ih => intro acc; rw [List.cons_append, sortW, ih, sortW]
theorem srt_ints_eq {r l : List Int} (hr : Srt id r) (hl : Srt id l) (h : r.Perm l) : r = l := by
  refine Srt_eq id hr hl ⟨h, fun v => ?_⟩
  have e : ∀ x : List Int, x.filter (fun p => decide (id p = v)) = List.replicate (x.count v) v := fun x => by
    have : (fun p : Int => decide (id p = v)) = fun p => p == v := funext fun p => rfl
    rw [this, List.filter_beq]
  rw [e, e, h.count_eq]
theorem pairSum_map (X : List PP) : (pairsF X).map Prod.fst = pairSum (X.map Prod.fst) := by
  induction X using pairsF.induct with
  | case1 a b r ih => rw [pairsF, List.map_cons, ih, List.map_cons, List.map_cons, pairSum]
  | case2 l hl =>
    rw [pairsF_short hl]
    match l, hl with
    | [], _ => rfl
    | [x], _ => rfl
    | a :: b :: r, h => exact absurd rfl (h a b r)
theorem srt_map {l : List PP} (h : Srt Prod.fst l) : Srt id (l.map Prod.fst) := List.pairwise_map.2 h
theorem least_map {lv : List PP} (hs : Srt Prod.fst lv) : ∀ t, (levelF lv t).map Prod.fst = leastLv (lv.map Prod.fst) t
  | 0 => rfl
  | t + 1 => by
    have ih := least_map hs t
    rw [leastLv, ← ih, ← pairSum_map]
    have h1 := sortW_spec id ((pairsF (levelF lv t)).map Prod.fst) (lv.map Prod.fst) (srt_map hs)
    refine srt_ints_eq (srt_map (level_srt lv (t + 1))) h1.1 ?_
    refine ((sortP_perm _).map Prod.fst).trans ?_
    rw [List.map_append]
    exact h1.2.1.symm
theorem leaves_fst (cs : List Int) : ∀ i, (leavesF cs i).map Prod.fst = posL cs := by
  induction cs with
  | nil => intro i; rfl
  | cons x r ih =>
    intro i
    rw [leavesF]
    unfold posL at *
    by_cases h : 0 < x
    · rw [if_pos h, List.filter_cons_of_pos (by simpa using h), List.map_cons, ih]
    · rw [if_neg h, List.filter_cons_of_neg (by simpa using h), ih]
theorem leavesS_map (cs : List Int) : (sortP (leavesF cs 0)).map Prod.fst = leavesS cs := by
  have h1 := sortW_spec id (posL cs) [] List.Pairwise.nil
  refine srt_ints_eq (srt_map (sortW_srt _ _)) h1.1 ?_
  refine ((sortP_perm _).map Prod.fst).trans ?_
  rw [leaves_fst]
  have := h1.2.1.symm
  rwa [List.nil_append] at this
theorem leavesS_len (cs : List Int) : (leavesS cs).length = (leavesF cs 0).length := by
  rw [← leavesS_map, List.length_map, sortP_len]
/-! What a package weighs is the sum of its symbols' counts. -/
def sumI : Nat → (Nat → Int) → Int
  | 0, _ => 0
  | n + 1, g => sumI n g + g n
theorem sumI_congr {g h : Nat → Int} : ∀ n, (∀ q, q < n → g q = h q) → sumI n g = sumI n h
  | 0, _ => rfl
  | n + 1, e => by rw [sumI, sumI, sumI_congr n (fun q hq => e q (by omega)), e n (by omega)]
theorem sumI_add (g h : Nat → Int) : ∀ n, sumI n (fun q => g q + h q) = sumI n g + sumI n h
  | 0 => rfl
  | n + 1 => by rw [sumI, sumI, sumI, sumI_add g h n]; omega
theorem sumI_one (x : Int) (s : Nat) : ∀ n, sumI n (fun q => if q = s then x else 0) = if s < n then x else 0
  | 0 => rfl
  | n + 1 => by
    rw [sumI, sumI_one x s n]
    by_cases h : n = s
    · subst h; rw [if_neg (Nat.lt_irrefl _), if_pos rfl, if_pos (by omega)]; omega
    · rw [if_neg h]
      by_cases h2 : s < n
      · rw [if_pos h2, if_pos (by omega)]; omega
      · rw [if_neg h2, if_neg (by omega)]; rfl
def cw (cs : List Int) (s : Int) : Int := nth cs s.toNat
def Good (cs : List Int) (l : List PP) : Prop := ∀ p ∈ l, p.1 = (p.2.map (cw cs)).sum
theorem good_perm {cs : List Int} {a b : List PP} (h : a.Perm b) (hb : Good cs b) : Good cs a := fun p hp => hb p (h.mem_iff.1 hp)
theorem good_pairs (cs : List Int) (l : List PP) (h : Good cs l) : Good cs (pairsF l) := by
  induction l using pairsF.induct with
  | case1 a b r ih =>
    intro p hp
    rw [pairsF] at hp
    rcases List.mem_cons.1 hp with rfl | hp
    · simp only [List.map_append, List.sum_append]
      rw [h a (by simp), h b (by simp)]
    · exact ih (fun q hq => h q (by simp [hq])) p hp
  | case2 l hl => rw [pairsF_short hl]; intro p hp; simp at hp
theorem good_level {cs : List Int} {lv : List PP} (h : Good cs lv) : ∀ t, Good cs (levelF lv t)
  | 0 => fun p hp => by simp [levelF] at hp
  | t + 1 => good_perm (sortP_perm _) (fun p hp => by
    rcases List.mem_append.1 hp with hp | hp
    · exact h p hp
    · exact good_pairs cs _ (good_level h t) p hp)
theorem good_leaves (cs : List Int) : Good cs (leavesF cs 0) := fun p hp => by
  obtain ⟨i, _, _, rfl⟩ := (leaf_mem' cs p).1 hp
  simp [cw]
theorem good_sum {cs : List Int} {l : List PP} (h : Good cs l) : (l.map Prod.fst).sum = ((l.flatMap Prod.snd).map (cw cs)).sum := by
  induction l with
  | nil => rfl
  | cons p r ih =>
    rw [List.map_cons, List.sum_cons, List.flatMap_cons, List.map_append, List.sum_append, ih (fun q hq => h q (by simp [hq])), h p (by simp)]
theorem cost_sum (cs : List Int) (N : Nat) : ∀ S : List Int, (∀ s ∈ S, 0 ≤ s ∧ s < N) → sumI N (fun i => nth cs i * (S.count (i : Int) : Int)) = (S.map (cw cs)).sum
  | [], _ => by
    rw [sumI_congr N (h := fun q => if q = N then 0 else 0) (fun q _ => by simp), sumI_one]; simp
  | s :: S, h => by
    have ih := cost_sum cs N S (fun x hx => h x (by simp [hx]))
    obtain ⟨h0, h1⟩ := h s (by simp)
    obtain ⟨k, rfl⟩ := Int.eq_ofNat_of_zero_le h0
    rw [List.map_cons, List.sum_cons, ← ih]
    have e : sumI N (fun i => nth cs i * (List.count (i : Int) ((k : Int) :: S) : Int)) = sumI N (fun i => (if i = k then nth cs k else 0) + nth cs i * (S.count (i : Int) : Int)) := by
      refine sumI_congr N fun q hq => ?_
      rw [List.count_cons]
      by_cases hk : q = k
      · subst hk; simp [Int.mul_add]; omega
      · rw [if_neg hk, if_neg (by simp; omega)]; simp
    rw [e, sumI_add, sumI_one, if_pos (by omega)]
    simp [cw]
/-- What the lengths cost is the least sum. -/
theorem lim_cost (cs : List Int) (t : Nat) (h2 : 2 ≤ (leavesF cs 0).length) (hin : inR cs.length (sortP (leavesF cs 0))) : sumI cs.length (fun i => nth cs i * nth (limLens cs t) i) = leastF cs t := by
  have hS : limLens cs t = cntF cs.length (((levelF (sortP (leavesF cs 0)) t).take (2 * (leavesF cs 0).length - 2)).flatMap Prod.snd) := by
    unfold limLens; rw [if_neg (by omega)]
  have hsrt : Srt Prod.fst (sortP (leavesF cs 0)) := sortW_srt _ _
  rw [hS, sumI_congr cs.length (fun q hq => by rw [cntF_nth _ _ _ hq]), cost_sum cs cs.length _ (fun s hs => by
    obtain ⟨p, hp, hs⟩ := List.mem_flatMap.1 hs
    exact level_inR _ hin t p (List.mem_of_mem_take hp) s hs), ← good_sum (fun p hp => good_level (good_perm (sortP_perm _) (good_leaves cs)) t p (List.mem_of_mem_take hp)), List.map_take, least_map hsrt, leavesS_map]
  unfold leastF
  rw [leavesS_len]
end Go.Proofs.YtcblibefmclloaaDoor

set_option linter.unusedVariables false
set_option linter.unusedSimpArgs false
/-! Plain mathematics: what a limit that is granted gives. -/
namespace Go.Proofs.YtcblibefmclloaaDoor
theorem used_leaves (cs : List Int) : (leavesF cs 0).length = usedF cs := by
  rw [← List.length_map (f := Prod.fst), leaves_fst]; rfl
theorem limF_ok {cs : List Int} {most : Int} (h : (limF cs most).2 = 0) : ∃ t : Nat, most = t ∧ 1 ≤ t ∧ t ≤ 15 ∧ 1 ≤ cs.length ∧ cs.length ≤ 288 ∧ cs.any badCount = false ∧ (leavesF cs 0).length ≤ 2 ^ t ∧ limF cs most = (limLens cs t, 0) := by
  unfold limF at h ⊢
  by_cases h1 : cs.length = 0 ∨ 288 < cs.length ∨ most < 1 ∨ 15 < most
  · rw [if_pos h1] at h; simp at h
  rw [if_neg h1] at h ⊢
  by_cases h2 : cs.any badCount = true
  · rw [if_pos h2] at h; simp at h
  rw [if_neg h2] at h ⊢
  by_cases h3 : 2 ^ most.toNat < (leavesF cs 0).length
  · rw [if_pos h3] at h; simp at h
  rw [if_neg h3]
  exact ⟨most.toNat, by omega, by omega, by omega, by omega, by omega, by simpa using h2, by omega, rfl⟩
theorem limF_bad {cs : List Int} {most : Int} (h : (limF cs most).2 ≠ 0) : (limF cs most).1 = [] := by
  unfold limF at h ⊢
  split
  · rfl
  · next h1 =>
    rw [if_neg h1] at h
    split
    · rfl
    · next h2 =>
      rw [if_neg h2] at h
      split
      · rfl
      · next h3 => rw [if_neg h3] at h; exact absurd rfl h
theorem fair_all (cs : List Int) (t : Nat) (hb : cs.any badCount = false) (ht : (leavesF cs 0).length ≤ 2 ^ t) (i k : Nat) (hi : i < cs.length) (hk : k < cs.length) (h0 : 0 < nth cs i) (h : nth cs i < nth cs k) :
    nth (limLens cs t) k ≤ nth (limLens cs t) i := by
  have hp := (leaves_bd cs hb 0).1
  by_cases h2 : 2 ≤ (leavesF cs 0).length
  · exact lim_fair cs t hp h2 ht i k hi hk h0 h
  · exfalso
    by_cases h1 : (leavesF cs 0).length = 1
    · obtain ⟨s, _, _, c, _⟩ := lim_one cs t h1
      have := c i hi h0
      have := c k hk (by omega)
      subst_vars; omega
    · exact (lim_none cs t (by omega) i hi).2 h0
theorem check_all (cs : List Int) (t : Nat) (h15 : t ≤ 15) (h1 : 1 ≤ cs.length) (h288 : cs.length ≤ 288) (hb : cs.any badCount = false) (ht : (leavesF cs 0).length ≤ 2 ^ t) (hu : usedF cs ≠ 0) : checkF (limLens cs t) = 0 := by
  rw [← used_leaves] at hu
  have hp := (leaves_bd cs hb 0).1
  by_cases h2 : 2 ≤ (leavesF cs 0).length
  · exact lim_check cs t h15 h1 h288 hp h2 ht
  · exact lim_check1 cs t h1 h288 (by omega)
end Go.Proofs.YtcblibefmclloaaDoor

set_option linter.unusedVariables false
set_option linter.unusedSimpArgs false
/-! Plain mathematics: each limited length, and what all cost. -/
namespace Go.Proofs.YtcblibefmclloaaDoor
theorem nth_nn_of_ok {cs : List Int} (hb : cs.any badCount = false) (i : Nat) (hi : i < cs.length) : 0 ≤ nth cs i ∧ nth cs i ≤ 1000000000000 := by
  have := List.any_eq_false.1 hb (nth cs i) (by rw [nth_lt hi]; exact List.getElem_mem _)
  unfold badCount at this
  simp at this
  omega
theorem lim_each (cs : List Int) (t : Nat) (h1 : 1 ≤ t) (h15 : t ≤ 15) (hb : cs.any badCount = false) (ht : (leavesF cs 0).length ≤ 2 ^ t) (i : Nat) (hi : i < cs.length) :
    (0 < nth (limLens cs t) i ↔ 0 < nth cs i) ∧ 0 ≤ nth (limLens cs t) i ∧ nth (limLens cs t) i ≤ t := by
  have hp := (leaves_bd cs hb 0).1
  have hnn := lim_nn cs t i hi
  by_cases h2 : 2 ≤ (leavesF cs 0).length
  · have := lim_ok cs t h15 hp h2 ht i hi
    exact ⟨this.1, hnn, this.2⟩
  · by_cases h3 : (leavesF cs 0).length = 1
    · obtain ⟨s, _, b, c, d⟩ := lim_one cs t h3
      rw [d i hi]
      by_cases e : i = s
      · subst e; rw [if_pos rfl]; exact ⟨⟨fun _ => b, fun _ => by omega⟩, by omega, by omega⟩
      · rw [if_neg e]; exact ⟨⟨fun h => by omega, fun h => absurd (c i hi h) e⟩, by omega, by omega⟩
    · have := lim_none cs t (by omega) i hi
      rw [this.1]; exact ⟨⟨fun h => by omega, fun h => absurd h this.2⟩, by omega, by omega⟩
theorem used_same (l cs : List Int) (hl : l.length = cs.length) (h : ∀ i, i < cs.length → (0 < nth l i ↔ 0 < nth cs i)) : usedF l = usedF cs := by
  have key : ∀ k, k ≤ cs.length → usedF (l.take k) = usedF (cs.take k) := by
    intro k
    induction k with
    | zero => intro _; rfl
    | succ k ih =>
      intro hk
      rw [usedF_snoc l k (by omega), usedF_snoc cs k (by omega), ih (by omega)]
      by_cases h0 : 0 < nth cs k
      · rw [if_pos h0, if_pos ((h k (by omega)).2 h0)]
      · rw [if_neg h0, if_neg (fun x => h0 ((h k (by omega)).1 x))]
  have := key cs.length (Nat.le_refl _)
  rwa [← hl, List.take_length, hl, List.take_length] at this
theorem lim_le1 (cs : List Int) (t : Nat) (hu : usedF cs = 1) (i : Nat) (hi : i < cs.length) : nth (limLens cs t) i ≤ 1 := by
  obtain ⟨s, _, _, _, d⟩ := lim_one cs t (by rw [used_leaves]; exact hu)
  rw [d i hi]; split <;> omega
theorem lim_two (cs : List Int) (t : Nat) (h1 : 1 ≤ cs.length) (h288 : cs.length ≤ 288) (h15 : t ≤ 15) (hb : cs.any badCount = false) (ht : (leavesF cs 0).length ≤ 2 ^ t) (hu : 2 ≤ usedF cs) :
    checkF (limLens cs t) = 0 ∧ sumI cs.length (fun i => nth cs i * nth (limLens cs t) i) = leastF cs t := by
  refine ⟨check_all cs t h15 h1 h288 hb ht (by omega), lim_cost cs t (by rw [used_leaves]; exact hu) (fun p hp s hs => ?_)⟩
  have := (leaves_bd cs hb 0).2.2.2.2 p ((sortP_perm _).mem_iff.1 hp) s hs
  simpa using this
/-- Running costs stay small. -/
theorem cost_bd (cs l : List Int) (hb : ∀ i, i < cs.length → 0 ≤ nth cs i ∧ nth cs i ≤ 1000000000000) (hl : ∀ i, i < cs.length → 0 ≤ nth l i ∧ nth l i ≤ 15) : ∀ k, k ≤ cs.length → 0 ≤ sumI k (fun i => nth cs i * nth l i) ∧ sumI k (fun i => nth cs i * nth l i) ≤ k * 15000000000000
  | 0, _ => by simp [sumI]
  | k + 1, h => by
    have ih := cost_bd cs l hb hl k (by omega)
    obtain ⟨a0, a1⟩ := hb k (by omega)
    obtain ⟨b0, b1⟩ := hl k (by omega)
    have c0 : 0 ≤ nth cs k * nth l k := Int.mul_nonneg a0 b0
    have c1 : nth cs k * nth l k ≤ 1000000000000 * 15 := Int.mul_le_mul a1 b1 b0 (by omega)
    rw [sumI]; omega
theorem prod_bd {p q : Int} (a0 : 0 ≤ p) (a1 : p ≤ 1000000000000) (b0 : 0 ≤ q) (b1 : q ≤ 15) : 0 ≤ p * q ∧ p * q ≤ 15000000000000 :=
  ⟨Int.mul_nonneg a0 b0, Int.mul_le_mul a1 b1 b0 (by omega)⟩
end Go.Proofs.YtcblibefmclloaaDoor

/- What is packed is unpacked as the same: plain lists. -/
set_option linter.unusedVariables false
set_option linter.unusedSimpArgs false
namespace Go.Proofs.YtcblibefmclloaaDoor
theorem last_rep (l : List Int) (v : Int) (k : Nat) (h : 1 ≤ k) : (l ++ List.replicate k v).getD ((l ++ List.replicate k v).length - 1) 0 = v := by
  rw [List.getD_eq_getElem?_getD, List.getElem?_append_right (by simp; omega), List.getElem?_replicate]
  rw [if_pos (by simp; omega)]; rfl
/-- A list with what many steps say, or nothing. -/
def more (l : List Int) (k : Nat) (v : Int) (r : List (Int × Int)) (m : Int) : Option (List Int) :=
  if ((l.length + k : Nat) : Int) ≤ m then unpackTo (l ++ List.replicate k v) r m else none
theorem more_zero (l : List Int) (v : Int) (r : List (Int × Int)) (m : Int) (h : (l.length : Int) ≤ m) : more l 0 v r m = unpackTo l r m := by
  rw [more, if_pos (by simpa using h)]; simp
theorem unpackTo_one {l : List Int} {s e v m : Int} {k : Nat} {r : List (Int × Int)} (h : sayF l s e = some (v, k)) : unpackTo l ((s, e) :: r) m = more l k v r m := by
  rw [more]
  by_cases hm : ((l.length + k : Nat) : Int) ≤ m
  · rw [if_pos hm]; exact unpackTo_cons (addF_some h hm)
  · rw [if_neg hm]; exact unpackTo_stop (addF_many h (by omega))
theorem more_more {l : List Int} {j k : Nat} {v m : Int} {r : List (Int × Int)} : (if ((l.length + j : Nat) : Int) ≤ m then more (l ++ List.replicate j v) k v r m else none) = more l (j + k) v r m := by
  simp only [more, List.length_append, List.length_replicate, List.append_assoc, List.replicate_append_replicate]
  by_cases h : ((l.length + (j + k) : Nat) : Int) ≤ m
  · rw [if_pos (by omega), if_pos (by omega), if_pos h]
  · rw [if_neg h]
    split
    · rw [if_neg (by omega)]
    · rfl
/-- Steps that say a value many times. -/
theorem unpack_reps (fr sym top : Nat) (v : Int) (P : List Int → Prop) (h0 : 0 < fr) (h1 : fr ≤ top) (hP : ∀ l k, P l → P (l ++ List.replicate k v))
    (hs : ∀ l k, P l → fr ≤ k → k ≤ top → sayF l sym ((k : Int) - fr) = some (v, k)) (n : Nat) :
    ∀ l r m, P l → (l.length : Int) ≤ m → unpackTo l (reps fr sym top n ++ r) m = more l (n - left fr top n) v r m := by
  induction n using Nat.strongRecOn with
  | _ n ih =>
    intro l r m hp hm
    have hle := reps_len fr sym top n h0 (by omega)
    by_cases h : fr ≤ n
    · rw [reps_ge h0 (by omega) h, left_ge h0 (by omega) h, List.cons_append]
      have hsy := hs l (min n top) hp (by omega) (by omega)
      rw [unpackTo_one hsy, more]
      have hle2 := reps_len fr sym top (n - min n top) h0 (by omega)
      rw [show n - left fr top (n - min n top) = min n top + (n - min n top - left fr top (n - min n top)) by omega, ← more_more]
      by_cases hm2 : ((l.length + min n top : Nat) : Int) ≤ m
      · rw [if_pos hm2, if_pos hm2]
        exact ih _ (by omega) _ r m (hP _ _ hp) (by rw [List.length_append, List.length_replicate]; exact hm2)
      · rw [if_neg hm2, if_neg hm2]
    · rw [reps_lt (by omega), left_lt (by omega), Nat.sub_self, more_zero _ _ _ _ hm]; rfl
theorem unpack_lits (v : Int) (h0 : 0 ≤ v) (h15 : v ≤ 15) (n : Nat) : ∀ l r m, (l.length : Int) ≤ m → unpackTo l (List.replicate n (v, (0 : Int)) ++ r) m = more l n v r m := by
  induction n with
  | zero => intro l r m hm; rw [more_zero _ _ _ _ hm]; rfl
  | succ n ih =>
    intro l r m hm
    rw [List.replicate_succ, List.cons_append, unpackTo_one (sayF_lit h0 h15), more, Nat.add_comm n 1, ← more_more]
    by_cases hm2 : ((l.length + 1 : Nat) : Int) ≤ m
    · rw [if_pos hm2, if_pos hm2]
      exact ih _ r m (by rw [List.length_append, List.length_replicate]; exact hm2)
    · rw [if_neg hm2, if_neg hm2]
theorem more_then {l : List Int} {j k : Nat} {v m : Int} {r : List (Int × Int)} {X : List Int → Option (List Int)} (hX : ∀ l', (l'.length : Int) ≤ m → X l' = more l' k v r m) :
    (if ((l.length + j : Nat) : Int) ≤ m then X (l ++ List.replicate j v) else none) = more l (j + k) v r m := by
  rw [← more_more]
  by_cases h : ((l.length + j : Nat) : Int) ≤ m
  · rw [if_pos h, if_pos h]; exact hX _ (by rw [List.length_append, List.length_replicate]; exact h)
  · rw [if_neg h, if_neg h]
theorem unpack_z (n : Nat) (l : List Int) (r : List (Int × Int)) (m : Int) (hm : (l.length : Int) ≤ m) : unpackTo l (zsteps n ++ r) m = more l n 0 r m := by
  have h18 := unpack_reps 11 18 138 0 (fun _ => True) (by omega) (by omega) (fun _ _ _ => trivial) (fun l k _ h1 h2 => by
    rw [show ((18 : Nat) : Int) = 18 from rfl, sayF_18 (by omega) (by omega)]; congr 2; omega) n
  have h17 := fun n' => unpack_reps 3 17 10 0 (fun _ => True) (by omega) (by omega) (fun _ _ _ => trivial) (fun l k _ h1 h2 => by
    rw [show ((17 : Nat) : Int) = 17 from rfl, sayF_17 (by omega) (by omega)]; congr 2; omega) n'
  have l1 := reps_len 11 18 138 n (by omega) (by omega)
  have l2 := reps_len 3 17 10 (left 11 138 n) (by omega) (by omega)
  rw [zsteps, List.append_assoc, List.append_assoc, h18 l _ m trivial hm, more]
  rw [more_then (k := left 11 138 n) (r := r) (X := fun l' => unpackTo l' (reps 3 17 10 (left 11 138 n) ++ (List.replicate (left 3 10 (left 11 138 n)) (0, 0) ++ r)) m)]
  · rw [show n - left 11 138 n + left 11 138 n = n by omega]
  · intro l' hl'
    show unpackTo l' _ m = _
    rw [h17 _ l' _ m trivial hl', more]
    rw [more_then (k := left 3 10 (left 11 138 n)) (r := r) (X := fun l' => unpackTo l' (List.replicate (left 3 10 (left 11 138 n)) (0, 0) ++ r) m) (fun l'' h => unpack_lits 0 (by omega) (by omega) _ l'' r m h)]
    rw [show left 11 138 n - left 3 10 (left 11 138 n) + left 3 10 (left 11 138 n) = left 11 138 n by omega]
theorem unpack_v (v : Int) (h0 : 0 ≤ v) (h15 : v ≤ 15) (n : Nat) (hn : 1 ≤ n) (l : List Int) (r : List (Int × Int)) (m : Int) (hm : (l.length : Int) ≤ m) : unpackTo l (vsteps v n ++ r) m = more l n v r m := by
  have h16 := unpack_reps 3 16 6 v (fun l => l ≠ [] ∧ l.getD (l.length - 1) 0 = v) (by omega) (by omega) (fun l k hp => by
      rcases Nat.eq_zero_or_pos k with rfl | hk
      · simpa using hp
      · exact ⟨by simp [hp.1], last_rep l v k hk⟩)
    (fun l k hp h1 h2 => by
      rw [show ((16 : Nat) : Int) = 16 from rfl, sayF_16 (by omega) (by omega) hp.1, hp.2]; congr 2; omega) (n - 1)
  have l1 := reps_len 3 16 6 (n - 1) (by omega) (by omega)
  rw [vsteps, List.cons_append, unpackTo_one (sayF_lit h0 h15), more]
  by_cases hm2 : ((l.length + 1 : Nat) : Int) ≤ m
  · rw [if_pos hm2, List.append_assoc]
    rw [h16 (l ++ List.replicate 1 v) _ m ⟨by simp, last_rep l v 1 (by omega)⟩ (by rw [List.length_append, List.length_replicate]; exact hm2), more]
    rw [more_then (k := left 3 6 (n - 1)) (r := r) (X := fun l' => unpackTo l' (List.replicate (left 3 6 (n - 1)) (v, 0) ++ r) m) (fun l'' h => unpack_lits v h0 h15 _ l'' r m h)]
    rw [show n - 1 - left 3 6 (n - 1) + left 3 6 (n - 1) = n - 1 by omega]
    have := more_more (l := l) (j := 1) (k := n - 1) (v := v) (m := m) (r := r)
    rw [if_pos hm2] at this
    rw [this, show 1 + (n - 1) = n by omega]
  · rw [if_neg hm2, more, if_neg (by omega)]
theorem unpack_r (v : Int) (h0 : 0 ≤ v) (h15 : v ≤ 15) (n : Nat) (hn : 1 ≤ n) (l : List Int) (r : List (Int × Int)) (m : Int) (hm : (l.length : Int) ≤ m) : unpackTo l (rsteps v n ++ r) m = more l n v r m := by
  unfold rsteps
  split
  · rename_i h; subst h; exact unpack_z n l r m hm
  · exact unpack_v v h0 h15 n hn l r m hm
theorem run_split (v : Int) (r : List Int) : v :: r = List.replicate (runN v (v :: r)) v ++ (v :: r).drop (runN v (v :: r)) := by
  have h := runN_get v (v :: r)
  have hl := runN_le v (v :: r)
  have e : (v :: r).take (runN v (v :: r)) = List.replicate (runN v (v :: r)) v := by
    refine List.ext_getElem (by rw [List.length_take, List.length_replicate]; omega) fun i h1 h2 => ?_
    have hi : i < runN v (v :: r) := by simpa using h2
    have := h i hi
    rw [List.getD_eq_getElem?_getD, List.getElem?_eq_getElem (by omega)] at this
    simpa using this
  rw [← e, List.take_append_drop]
theorem unpack_pack (xs : List Int) : ∀ (l : List Int) (m : Int), (∀ x ∈ xs, 0 ≤ x ∧ x ≤ 15) → (l.length : Int) ≤ m →
    unpackTo l (packF xs) m = if ((l.length + xs.length : Nat) : Int) ≤ m then some (l ++ xs) else none := by
  induction h : xs.length using Nat.strongRecOn generalizing xs with
  | _ n ih =>
    intro l m hx hm
    match xs, h with
    | [], h =>
      simp at h; subst h
      rw [packF_nil, unpackTo, if_pos (by simpa using hm)]; simp
    | v :: r, h =>
      have h1 := runN_head v r
      have h2 := runN_le v (v :: r)
      have hv := hx v (by simp)
      have hsp := run_split v r
      have hlen : ((v :: r).drop (runN v (v :: r))).length = n - runN v (v :: r) := by rw [List.length_drop, h]
      rw [packF, unpack_r v hv.1 hv.2 _ h1 l _ m hm, more]
      by_cases hm2 : ((l.length + runN v (v :: r) : Nat) : Int) ≤ m
      · rw [if_pos hm2, ih _ (by omega) _ hlen _ m (fun x hx' => hx x (List.mem_of_mem_drop hx')) (by rw [List.length_append, List.length_replicate]; exact hm2)]
        rw [List.length_append, List.length_replicate, List.append_assoc, ← hsp]
        by_cases hm3 : ((l.length + n : Nat) : Int) ≤ m
        · rw [if_pos (by omega), if_pos hm3]
        · rw [if_neg (by omega), if_neg hm3]
      · rw [if_neg hm2, if_neg (by omega)]
/-- Unpacked into as many lengths as there were: the same. -/
theorem unpackF_pack (xs : List Int) (hx : ∀ x ∈ xs, 0 ≤ x ∧ x ≤ 15) (h : xs.length ≤ 316) : unpackF (packF xs) xs.length = (xs, 0) := by
  have := unpack_pack xs [] xs.length hx (by simp)
  rw [if_pos (by simp)] at this
  exact unpackF_ok (by omega) (by omega) this (by simp)
theorem unpackF_less (xs : List Int) (hx : ∀ x ∈ xs, 0 ≤ x ∧ x ≤ 15) (h : xs.length ≤ 316) : unpackF (packF xs) ((xs.length : Int) - 1) = ([], if xs.length = 0 then 1 else 41) := by
  by_cases h0 : xs.length = 0
  · rw [if_pos h0]; exact unpackF_arg (by omega)
  · rw [if_neg h0]
    have := unpack_pack xs [] ((xs.length : Int) - 1) hx (by simp; omega)
    rw [if_neg (by simp; omega)] at this
    exact unpackF_none (by omega) (by omega) this
theorem unpackF_more (xs : List Int) (hx : ∀ x ∈ xs, 0 ≤ x ∧ x ≤ 15) (h : xs.length ≤ 316) : unpackF (packF xs) ((xs.length : Int) + 1) = ([], if xs.length = 316 then 1 else 41) := by
  by_cases h0 : xs.length = 316
  · rw [if_pos h0]; exact unpackF_arg (by omega)
  · rw [if_neg h0]
    have := unpack_pack xs [] ((xs.length : Int) + 1) hx (by simp; omega)
    rw [if_pos (by simp; omega)] at this
    exact unpackF_few (by omega) (by omega) this (by simp; omega)
end Go.Proofs.YtcblibefmclloaaDoor
