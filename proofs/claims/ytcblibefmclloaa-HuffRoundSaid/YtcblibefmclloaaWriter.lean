import Derived.Test.YtcblibefmclloaaMBits
import Derived.Test.YtcblibefmclloaaNewReader
import Derived.Test.YtcblibefmclloaaGrow
import Derived.WalkMore
import Derived.Deep.Heap
import Derived.Laws.CopyOwn
import Derived.Laws.OwnMore
import Derived.Deep.AppendLies
import Derived.RegionTactic
import Derived.BigQuiet
import Derived.BigRegion
import Derived.Test.YtcblibefmclloaaKeep
set_option linter.unusedVariables false
set_option linter.unusedSimpArgs false
/-! Bits that are laid into bytes: plain mathematics, then the writer's walks. -/
namespace Go.Proofs.Ytcblibefmclloaa
open Go.RowKit
def vbits (r : Int) (k : Nat) : List Int := (List.range k).map fun t => r / 2 ^ t % 2
theorem vbits_len (r : Int) (k : Nat) : (vbits r k).length = k := by simp [vbits]
theorem vbits_nth (r : Int) (k t : Nat) (h : t < k) : nth (vbits r k) t = r / 2 ^ t % 2 := by simp [vbits, nth, List.getD, h]
theorem vbits_add (r : Int) (j k : Nat) : vbits r (j + k) = vbits r j ++ vbits (r / 2 ^ j) k := by
  unfold vbits
  rw [List.range_add, List.map_append, List.map_map]
  congr 1
  refine List.map_congr_left fun t _ => ?_
  simp only [Function.comp]
  rw [Int.pow_add, div_div _ _ _ (pow_cast _)]
/-- Bytes hold these bits, and no more. -/
structure WB (xs bl : List Int) : Prop where
  len : xs.length = (bl.length + 7) / 8
  byte : ∀ j, 0 ≤ nth xs j ∧ nth xs j ≤ 255
  top : bl.length % 8 ≠ 0 → nth xs (bl.length / 8) < 2 ^ (bl.length % 8)
  bit : ∀ i, i < bl.length → bitAt xs i = nth bl i
theorem WB.zero : WB [] [] := ⟨rfl, fun j => by simp [nth], fun h => absurd rfl h, fun i h => by simp at h⟩
/-- The bytes, one more if the last is full. -/
def padF (xs bl : List Int) : List Int := if bl.length % 8 = 0 then xs ++ [0] else xs
theorem pad_len {xs bl : List Int} (h : WB xs bl) : (padF xs bl).length = bl.length / 8 + 1 := by
  unfold padF
  have := h.len
  split
  · rw [List.length_append, List.length_singleton]; omega
  · omega
theorem pad_nth {xs bl : List Int} (h : WB xs bl) (j : Nat) : nth (padF xs bl) j = nth xs j := by
  unfold padF
  split
  · by_cases hj : j < xs.length
    · simp [nth, List.getD, List.getElem?_append_left hj]
    · by_cases hj2 : j = xs.length
      · subst hj2; simp [nth, List.getD]
      · simp [nth, List.getD, List.getElem?_eq_none (show xs.length ≤ j by omega), List.getElem?_eq_none (show (xs ++ [0]).length ≤ j by simp; omega)]
  · rfl
theorem pad_last {xs bl : List Int} (h : WB xs bl) : 0 ≤ nth (padF xs bl) (bl.length / 8) ∧ nth (padF xs bl) (bl.length / 8) < 2 ^ (bl.length % 8) := by
  rw [pad_nth h]
  refine ⟨(h.byte _).1, ?_⟩
  by_cases h8 : bl.length % 8 = 0
  · have : nth xs (bl.length / 8) = 0 := by
      have := h.len
      simp [nth, List.getD, List.getElem?_eq_none (show xs.length ≤ bl.length / 8 by omega)]
    rw [this]; exact pow_cast _
  · exact h.top h8
theorem nth_set_eq (xs : List Int) (i : Nat) (y : Int) (h : i < xs.length) : nth (xs.set i y) i = y := by simp [nth, List.getD, h]
theorem nth_set_ne (xs : List Int) (i j : Nat) (y : Int) (h : j ≠ i) : nth (xs.set i y) j = nth xs j := by simp [nth, List.getD, List.getElem?_set_ne (Ne.symm h)]
theorem mod_div_mod (r : Int) (k t : Nat) (h : t < k) : r % 2 ^ k / 2 ^ t % 2 = r / 2 ^ t % 2 := by
  have e : r = r % 2 ^ k + 2 ^ (k - t - 1) * 2 * (r / 2 ^ k) * 2 ^ t := by
    have h1 := Int.emod_add_mul_ediv r (2 ^ k)
    have h2 : (2 : Int) ^ k = 2 ^ (k - t - 1) * 2 * 2 ^ t := by rw [← Int.pow_succ, ← Int.pow_add]; congr 1; omega
    rw [Int.mul_assoc (2 ^ (k - t - 1) * 2), Int.mul_comm (r / 2 ^ k), ← Int.mul_assoc, ← h2]
    omega
  have h3 : r / 2 ^ t = r % 2 ^ k / 2 ^ t + 2 ^ (k - t - 1) * 2 * (r / 2 ^ k) := by
    conv => lhs; rw [e]
    exact Int.add_mul_ediv_right _ _ (Int.ne_of_gt (pow_cast t))
  rw [h3, Int.mul_comm (2 ^ (k - t - 1)) 2, Int.mul_assoc 2]
  omega
theorem pad_step {xs bl : List Int} (h : WB xs bl) (r : Int) (k : Nat) (h1 : 1 ≤ k) (hk : bl.length % 8 + k ≤ 8) :
    WB ((padF xs bl).set (bl.length / 8) (nth (padF xs bl) (bl.length / 8) + r % 2 ^ k * 2 ^ (bl.length % 8))) (bl ++ vbits r k) := by
  have hpl := pad_len h
  obtain ⟨x0, x1⟩ := pad_last h
  have hpn := pad_nth h
  have hby := h.byte
  generalize hX : padF xs bl = X at *
  obtain ⟨s, hs⟩ : ∃ s, s = bl.length % 8 := ⟨_, rfl⟩
  obtain ⟨q, hq⟩ : ∃ q, q = bl.length / 8 := ⟨_, rfl⟩
  rw [← hs] at hk x1 ⊢
  rw [← hq] at hpl x0 x1 ⊢
  have hL : bl.length = 8 * q + s := by omega
  have hr0 := Int.emod_nonneg r (show (2 : Int) ^ k ≠ 0 from Int.ne_of_gt (pow_cast k))
  have hr1 := Int.emod_lt_of_pos r (pow_cast k)
  have hps := pow_cast s
  generalize hx : nth X q = x at *
  obtain ⟨y, hy⟩ : ∃ y, y = x + r % 2 ^ k * 2 ^ s := ⟨_, rfl⟩
  rw [← hy]
  have y0 : 0 ≤ y := by rw [hy]; have := Int.mul_nonneg hr0 (Int.le_of_lt hps); omega
  have y1 : y < 2 ^ (s + k) := by
    have a : r % 2 ^ k * 2 ^ s ≤ (2 ^ k - 1) * 2 ^ s := Int.mul_le_mul_of_nonneg_right (by omega) (Int.le_of_lt hps)
    rw [Int.sub_mul, Int.one_mul, ← Int.pow_add, Nat.add_comm k s] at a
    omega
  have y2 := pow_le8 (s + k) hk
  have ydiv : y / 2 ^ s = r % 2 ^ k := by
    rw [hy, Int.add_mul_ediv_right _ _ (Int.ne_of_gt hps), Int.ediv_eq_zero_of_lt x0 x1]; omega
  refine ⟨?_, fun j => ?_, fun h8 => ?_, fun i hi => ?_⟩
  · rw [List.length_set, hpl, List.length_append, vbits_len]; omega
  · by_cases hj : j = q
    · subst hj; rw [nth_set_eq _ _ _ (by omega)]; omega
    · rw [nth_set_ne _ _ _ _ hj, hpn]; exact hby j
  · rw [List.length_append, vbits_len] at h8 ⊢
    rw [show (bl.length + k) / 8 = q by omega, nth_set_eq _ _ _ (by omega), show (bl.length + k) % 8 = s + k by omega]
    exact y1
  · rw [List.length_append, vbits_len] at hi
    by_cases hlt : i < bl.length
    · rw [show nth (bl ++ vbits r k) i = nth bl i by simp [nth, List.getD, List.getElem?_append_left hlt], ← h.bit i hlt]
      unfold bitAt
      by_cases hj : i / 8 = q
      · rw [hj, nth_set_eq _ _ _ (by omega), ← hpn, hx, hy]
        have ht : i % 8 < s := by omega
        generalize i % 8 = t at *
        have e : (2 : Int) ^ s = 2 ^ (s - t - 1) * 2 * 2 ^ t := by rw [← Int.pow_succ, ← Int.pow_add]; congr 1; omega
        rw [e, ← Int.mul_assoc, Int.add_mul_ediv_right _ _ (Int.ne_of_gt (pow_cast t)), ← Int.mul_assoc]
        omega
      · rw [nth_set_ne _ _ _ _ hj, hpn]
    · obtain ⟨t, rfl⟩ : ∃ t, i = bl.length + t := ⟨i - bl.length, by omega⟩
      have e2 : nth (bl ++ vbits r k) (bl.length + t) = nth (vbits r k) t := by simp [nth, List.getD, List.getElem?_append_right]
      rw [e2, vbits_nth _ _ _ (by omega)]
      unfold bitAt
      rw [show (bl.length + t) / 8 = q by omega, show (bl.length + t) % 8 = s + t by omega, nth_set_eq _ _ _ (by omega), Int.pow_add, ← div_div _ _ _ hps, ydiv, mod_div_mod r k t (by omega)]
theorem put_byte (x r : Int) (k s : Nat) (hx : 0 ≤ x) (hx1 : x < 2 ^ s) (hr : 0 ≤ r) (hr1 : r < 4294967296) (hk : s + k ≤ 8) :
    Go.bits .or .u8 x (IntKind.u8.wrap (IntKind.u8.wrap (Go.bits .and .u64 r (2 ^ k - 1)) * 2 ^ s)) = x + r % 2 ^ k * 2 ^ s := by
  have hps := pow_cast s
  have h0 := Int.emod_nonneg r (show (2 : Int) ^ k ≠ 0 from Int.ne_of_gt (pow_cast k))
  have h1 := Int.emod_lt_of_pos r (pow_cast k)
  have hk8 := pow_le8 k (by omega)
  have hsk := pow_le8 (s + k) hk
  have hs8 := pow_le8 s (by omega)
  have a0 : 0 ≤ r % 2 ^ k * 2 ^ s := Int.mul_nonneg h0 (Int.le_of_lt hps)
  have a1 : r % 2 ^ k * 2 ^ s < 256 := by
    have a : r % 2 ^ k * 2 ^ s ≤ (2 ^ k - 1) * 2 ^ s := Int.mul_le_mul_of_nonneg_right (by omega) (Int.le_of_lt hps)
    rw [Int.sub_mul, Int.one_mul, ← Int.pow_add, Nat.add_comm k s] at a
    omega
  rw [bits_mask .u64 64 (by decide) wraps_u64 k (by omega) r hr (by omega), wraps_u8 _ h0 (by omega), wraps_u8 _ a0 (by omega)]
  have hj := bits_join .u8 8 (by decide) wraps_u8 s (r % 2 ^ k * 2 ^ s) x a0 (by simp) (by omega) hx hx1 (by omega)
  obtain ⟨a, ha⟩ := Int.eq_ofNat_of_zero_le a0
  obtain ⟨b, rfl⟩ := Int.eq_ofNat_of_zero_le hx
  rw [ha] at hj a1 ⊢
  have ha' : a < 2 ^ 8 := by omega
  have hb' : b < 2 ^ 8 := by omega
  rw [(bits_nat .u8 8 (by decide) wraps_u8 a b ha' hb').2] at hj
  rw [(bits_nat .u8 8 (by decide) wraps_u8 b a hb' ha').2, Nat.or_comm, hj]
  omega
theorem put_byte2 (x r : Int) (k s : Nat) (hx : 0 ≤ x) (hx1 : x < 2 ^ s) (hr : 0 ≤ r) (hr1 : r < 4294967296) (hk : s + k ≤ 8) :
    Go.bits .or .u8 x (Go.bits .and .u64 r (IntKind.u64.wrap (IntKind.u64.wrap (2 ^ k) - 1)) % 256 * 2 ^ s % 256) = x + r % 2 ^ k * 2 ^ s := by
  have h := put_byte x r k s hx hx1 hr hr1 hk
  have e : ∀ n : Int, IntKind.u8.wrap n = n % 256 := fun n => by simp [IntKind.wrap, IntKind.bits, IntKind.signed]
  have hp := pow_cast k
  have hp8 := pow_le8 k (by omega)
  rw [wraps_u64 (2 ^ k) (by omega) (by omega), wraps_u64 (2 ^ k - 1) (by omega) (by omega)]
  rw [e, e] at h
  exact h

/-- A writer: its block, and a row of bytes behind it that hold these bits. -/
def Wtr (w : World) (g : Nat) (bl : List Int) : Prop :=
  ∃ (xs : List Int) (v : Value) (n : Nat), n = xs.length ∧ Blk w g 82 [v, .int .i64 bl.length] ∧ w.ownsRow (g + 1) 5 1 v n (ints .u8 xs) ∧ WB xs bl
theorem Wtr.lt {w : World} {g : Nat} {bl : List Int} (h : Wtr w g bl) : g < w.heap.size := by
  obtain ⟨_, _, _, _, h, _⟩ := h; exact h.lt
theorem Wtr.keeps {w w' : World} {g : Nat} {bl : List Int} {K : List Nat} (h : Wtr w g bl) (hk : Keeps K w w') (hK : ∀ x ∈ K, x < g ∨ w.heap.size ≤ x) : Wtr w' g bl := by
  obtain ⟨xs, v, n, h0, h1, h2, h3⟩ := h
  refine ⟨xs, v, n, h0, h1.keeps hk (fun hm => by have := h1.lt; rcases hK g hm with h | h <;> omega), own_keeps h2 hk fun x hx hm => ?_, h3⟩
  have a := own_lo h2 x hx
  have b := own_hi h2 x hx
  rcases hK x hm with h | h <;> omega
set_option maxRecDepth 100000 in
set_option maxHeartbeats 400000 in
theorem newWriter_calls (w : World) :
    Calls Try.prog 26 #[] w fun e w' => e = .returned (.pointer (some ⟨w.heap.size, 0, none⟩)) ∧ Wtr w' w.heap.size [] ∧ Below w.heap.size w w' := by
  go_enter Try.func26, Try.ntmps26
  go_wp2_with fail
  go_ret
  exact ⟨rfl, ⟨[], .slice none 0 0, 0, rfl, blk_new w 82 [.slice none 0 0, .int .i64 0], World.ownsRow_nil _ _ _ _, WB.zero⟩, (Below.refl _ w).alloc (Nat.le_refl _) _⟩
/-- A block of bytes. -/
def U8 (w : World) (k : Nat) : Prop := ∃ cur fr, w.heap[k]? = some (.cells cur 5 fr)
theorem own_u8 {w : World} {base size n : Nat} {v : Value} {xs : List Value} (h : w.ownsRow base 5 size v n xs) : ∀ k, v.ownBlock = some k → U8 w k := by
  intro k hk
  rcases h.2 with ⟨rfl, _⟩ | ⟨g, cap, cur, rfl, _, hh, _⟩
  · cases hk
  · obtain rfl := Option.some.inj hk
    exact ⟨_, _, hh⟩
/-- Nothing has turned but a writer's block, and blocks of bytes. -/
structure PT (g : Nat) (w w' : World) : Prop where
  size : w.heap.size ≤ w'.heap.size
  same : ∀ k, k < w.heap.size → k ≠ g → ¬ U8 w k → w'.heap[k]? = w.heap[k]?
theorem PT.refl (g : Nat) (w : World) : PT g w w := ⟨Nat.le_refl _, fun _ _ _ _ => rfl⟩
theorem PT.step {g : Nat} {w w1 w2 : World} (h : PT g w w1) (hs : w1.heap.size ≤ w2.heap.size) (h2 : ∀ k, k < w1.heap.size → k ≠ g → ¬ U8 w1 k → w2.heap[k]? = w1.heap[k]?) : PT g w w2 :=
  ⟨Nat.le_trans h.size hs, fun k hk hg hu => by
    have e := h.same k hk hg hu
    rw [h2 k (Nat.lt_of_lt_of_le hk h.size) hg (fun ⟨c, f, hc⟩ => hu ⟨c, f, by rw [← e]; exact hc⟩), e]⟩
theorem PT.trans {g : Nat} {w w1 w2 : World} (h : PT g w w1) (k : PT g w1 w2) : PT g w w2 := h.step k.size k.same
theorem PT.alloc {g : Nat} {w w1 : World} (h : PT g w w1) (o : Obj) : PT g w (w1.alloc o) := h.step (by simp) (fun k hk _ _ => Go.Deep.blk_alloc_lt _ _ _ hk)
theorem PT.drew {g : Nat} {w w1 : World} (h : PT g w w1) : PT g w w1.drew := h.step (Nat.le_refl _) (fun _ _ _ _ => rfl)
theorem PT.setG {g : Nat} {w w1 : World} (h : PT g w w1) (i : Nat) (v : Value) : PT g w (w1.setCell ⟨g, i, none⟩ v) := h.step (by simp [World.setCell]) (fun k _ hg _ => Go.Deep.blk_setCell_other _ _ _ _ hg)
theorem PT.setU {g : Nat} {w w1 : World} (h : PT g w w1) {b : Nat} (hb : U8 w1 b) (i : Nat) (v : Value) : PT g w (w1.setCell ⟨b, i, none⟩ v) := h.step (by simp [World.setCell]) (fun k _ _ hu => Go.Deep.blk_setCell_other _ _ _ _ (fun e => hu (by rw [e]; exact hb)))
theorem PT.grown {g : Nat} {w w1 w2 : World} {row : Option Nat} (h : PT g w w1) (hg : w1.grownBy w2 row) (hr : ∀ k, row = some k → U8 w1 k) : PT g w w2 := h.step hg.size (fun k hk _ hu => hg.block k hk (fun e => hu (hr k e.symm)))
theorem own_formW {w : World} {base : Nat} {e : TypeId} {size n : Nat} {v : Value} {xs : List Value} (h : w.ownsRow base e size v n xs) : ∃ A c, v = .slice A n c := by
  rcases h.2 with ⟨rfl, rfl⟩ | ⟨g, cap, cur, rfl, _⟩
  · exact ⟨_, _, rfl⟩
  · exact ⟨_, _, rfl⟩
set_option maxRecDepth 100000 in
set_option maxHeartbeats 4000000 in
theorem put_calls (w : World) (g : Nat) (bl : List Int) (x : Int) (m : Nat) (hw : Wtr w g bl) (hx : 0 ≤ x) (hx1 : x < 4294967296) (hm : m ≤ 32) (hxm : x / 2 ^ m = 0) (hb : bl.length ≤ 100000000) :
    Calls Try.prog 27 #[.pointer (some ⟨g, 0, none⟩), .int .u32 x, .int .i64 m] w fun e w' => e = .returned (.int .i64 0) ∧ Wtr w' g (bl ++ vbits x m) ∧ Below g w w' ∧ PT g w w' := by
  have HW := Lib.hid hw
  have HXM := Lib.hid hxm
  clear hw hxm
  go_enter Try.func27, Try.ntmps27
  have e1 : decide ((m : Int) < 0) = false := by simp
  have e2 : decide (32 < m) = false := by simp; omega
  have e3 : decide ((32 : Int) < (m : Int)) = false := by simp; omega
  have e4 : (x / 2 ^ m != 0) = false := by simpa using HXM.out
  go_wp2_with fail
  go_step3
  go_wp2_with fail
  go_step3
  go_wp2_with fail
  clear e1 e2 e3 e4
  have HW0 : Hid (Wtr w g (bl ++ vbits x 0)) := Lib.hid (by simpa [vbits] using HW.out)
  clear HW
  go_loopw [2, 7] (fun nv rv wr => ∃ j : Nat, j ≤ m ∧ nv = .int .i64 ((m : Int) - j) ∧ rv = .int .u64 (x / 2 ^ j) ∧ Hid (Wtr wr g (bl ++ vbits x j)) ∧ Hid (Below g w wr) ∧ Hid (PT g w wr)) (fun nv _ _ => (intOf nv).toNat)
  case atStart => exact ⟨0, by omega, by simp, by simp, HW0, Lib.hid (Below.refl _ _), Lib.hid (PT.refl _ _)⟩
  case round =>
    clear HW0
    obtain ⟨j, hj, rfl, rfl, HW, HB, HP⟩ := hrel
    by_cases hjm : j < m
    · have e1 : ((m : Int) - j == 0) = false := by simp; omega
      obtain ⟨xs, v, n2, hn2, hblk, hown, hwb⟩ := HW.out
      have hlen : (bl ++ vbits x j).length = bl.length + j := by rw [List.length_append, vbits_len]
      obtain ⟨L, hL⟩ : ∃ L, L = bl.length + j := ⟨_, rfl⟩
      have hLb : L ≤ 100000032 := by omega
      rw [hlen, ← hL] at hblk
      have HL := Lib.hid hL
      have HLEN : Hid ((bl ++ vbits x j).length = L) := Lib.hid (by rw [hlen, hL])
      have hr0 : 0 ≤ x / 2 ^ j := Int.ediv_nonneg hx (Int.le_of_lt (pow_cast j))
      have hr1 : x / 2 ^ j < 4294967296 := Int.lt_of_le_of_lt (Int.ediv_le_self _ hx) hx1
      obtain ⟨k, hk⟩ : ∃ k : Nat, (if 8 - (L : Int) % 8 < (m : Int) - j then 8 - (L : Int) % 8 else (m : Int) - j) = (k : Int) := ⟨min (m - j) (8 - L % 8), by split <;> omega⟩
      have hk1 : 1 ≤ k := by split at hk <;> omega
      have hk8 : L % 8 + k ≤ 8 := by split at hk <;> omega
      have hkm : j + k ≤ m := by split at hk <;> omega
      have s5 : (0 : Int) ≤ (L : Int) % 8 := by omega
      have s6 : (L : Int) % 8 < 8 := by omega
      have s7 : (0 : Int) ≤ (L : Int) := by omega
      have hnext : Hid (x / 2 ^ j / 2 ^ k = x / 2 ^ (j + k)) := Lib.hid (by rw [div_div _ _ _ (pow_cast j), ← Int.pow_add])
      have hstep : Hid (WB ((padF xs (bl ++ vbits x j)).set (L / 8) (nth (padF xs (bl ++ vbits x j)) (L / 8) + x / 2 ^ j % 2 ^ k * 2 ^ (L % 8))) (bl ++ vbits x (j + k))) := Lib.hid (by
        have := pad_step hwb (x / 2 ^ j) k hk1 (by rw [HLEN.out]; exact hk8)
        rw [HLEN.out, List.append_assoc, ← vbits_add] at this
        exact this)
      have hplen : Hid ((padF xs (bl ++ vbits x j)).length = L / 8 + 1) := Lib.hid (by rw [pad_len hwb, HLEN.out])
      have hplast : Hid (0 ≤ nth (padF xs (bl ++ vbits x j)) (L / 8) ∧ nth (padF xs (bl ++ vbits x j)) (L / 8) < 2 ^ (L % 8)) := Lib.hid (by have := pad_last hwb; rwa [HLEN.out] at this)
      have hpad : Hid (padF xs (bl ++ vbits x j) = if L % 8 = 0 then xs ++ [0] else xs) := Lib.hid (by unfold padF; rw [HLEN.out])
      clear hlen hwb hL HLEN
      generalize padF xs (bl ++ vbits x j) = X at *
      have h0 := hblk.cell 0
      have h1 := hblk.cell 1
      simp only [List.getElem?_cons_zero, List.getElem?_cons_succ] at h0 h1
      have hf0 := hblk.frozen 0
      have hf1 := hblk.frozen 1
      by_cases h8 : L % 8 = 0
      · have e2 : ((L : Int) % 8 == 0) = true := by simp; omega
        have hX : X = xs ++ [0] := by have := hpad.out; rwa [if_pos h8] at this
        have hxl : xs.length = L / 8 := by have := hplen.out; rw [hX, List.length_append, List.length_singleton] at this; omega
        have hlt := hblk.lt
        have HOA : Hid ((wr.alloc (.cells #[.int .u8 0] 5)).ownsRow (g + 1) 5 1 v n2 (ints .u8 xs)) := Lib.hid (own_keeps hown ((Keeps.refl [] wr).alloc _) (by simp))
        have HRI : Hid (RI .u8 (wr.alloc (.cells #[.int .u8 0] 5)) (some ⟨wr.heap.size, 0, none⟩) 1 [0]) := Lib.hid (Blk.ri (xs := [0]) (ys := []) (k := .u8) (by simpa [ints] using blk_new wr 5 (ints .u8 [0])))
        have HBA := Lib.hid (HB.out.alloc (Nat.le_of_lt hlt) (.cells #[.int .u8 0] 5))
        have HPA := Lib.hid (HP.out.alloc (.cells #[.int .u8 0] 5))
        have HBK := Lib.hid (hblk.keeps ((Keeps.refl [] wr).alloc (.cells #[.int .u8 0] 5)) (by simp))
        have hn2b : n2 ≤ 100000032 := by omega
        have HN2 : Hid (n2 = L / 8) := Lib.hid (by rw [hn2, hxl])
        obtain ⟨vA, vc, rfl⟩ : ∃ A c, v = .slice A n2 c := own_formW hown
        clear hown hblk hn2 HW hpad
        go_wp2_with (at_builtin; refine app_bytes rfl (.tmp 40) (.tmp 41) rfl (g + 1) _ _ xs rfl (by exact HOA.out) _ 1 1 [0] rfl (by exact HRI.out) (by simp) (by omega) ?c4 ?_)
        case c4 => simp; omega
        intro v1 w1 ho1 hg1
        have hg0 : ∀ k, (Value.slice vA n2 vc).ownBlock = some k → g + 1 ≤ k := fun k hk => (HOA.out.lt k hk).1
        have hblk1 : Blk w1 g 82 [.slice vA n2 vc, .int .i64 L] := (hg1.block g (Nat.lt_trans hlt (by simp)) (fun e => by have := hg0 g e.symm; omega)).trans HBK.out
        have HB1 := Lib.hid (HBA.out.grown hg1 (by simp; omega) (fun k hk => by have := hg0 k hk; omega))
        have HP1 := Lib.hid (HPA.out.grown hg1 (own_u8 HOA.out))
        clear HPA HP
        rw [← hX, HN2.out] at ho1
        have ho1' : w1.ownsRow (g + 1) 5 1 v1 (L / 8 + 1) (ints .u8 X) := ho1
        obtain ⟨rb, cap, rfl, hrb1, hrb2⟩ := ho1'.form (by omega)
        have c0 := hblk1.cell 0
        have c1 := hblk1.cell 1
        simp only [List.getElem?_cons_zero, List.getElem?_cons_succ] at c0 c1
        have cf0 := hblk1.frozen 0
        have hS1 := ownsRow_setCell_below ho1' (a := ⟨g, 0, none⟩) (Nat.lt_succ_self g) (.slice (some ⟨rb, 0, none⟩) (L / 8 + 1) cap)
        have hS2 := hblk1.set 0 (.slice (some ⟨rb, 0, none⟩) (L / 8 + 1) cap)
        have hS3 := HB1.out.setCell (p := ⟨g, 0, none⟩) (Nat.le_refl g) (.slice (some ⟨rb, 0, none⟩) (L / 8 + 1) cap)
        have hP4 := HP1.out.setG 0 (.slice (some ⟨rb, 0, none⟩) (L / 8 + 1) cap)
        have hS4 : rb < (w1.setCell ⟨g, 0, none⟩ (.slice (some ⟨rb, 0, none⟩) (L / 8 + 1) cap)).heap.size := by simpa [World.setCell] using hrb2
        simp only [List.set_cons_zero] at hS2
        have HS := Lib.hid (And.intro hS1 (And.intro hS2 (And.intro hS3 hP4)))
        clear hS1 hS2 hS3 hP4 HP1 h0 h1 hf0 hf1 HOA HRI HBA HBK hblk1 ho1 ho1' HB1 hg1 HB hrb2
        go_upto_region 9 with (fail)
        obtain ⟨hown, hblk, hHB, hHP⟩ := HS.out
        clear HS c0 c1 cf0 hg0 HN2 hX hxl h8 e2
        generalize w1.setCell ⟨g, 0, none⟩ (.slice (some ⟨rb, 0, none⟩) (L / 8 + 1) cap) = ws at *
        have HB := Lib.hid hHB
        have HP := Lib.hid hHP
        have hrb2 := hS4
        have h0 := hblk.cell 0
        have h1 := hblk.cell 1
        simp only [List.getElem?_cons_zero, List.getElem?_cons_succ] at h0 h1
        have hf0 := hblk.frozen 0
        have hf1 := hblk.frozen 1
        clear hHB hHP hS4
        have hcl := hown.cellAt (L / 8) (by omega)
        have hfr := hown.frozenAt (L / 8)
        rw [show (ints .u8 X)[L / 8]? = some (.int .u8 (nth X (L / 8))) by rw [ints_getElem?]; simp [nth, List.getD, show L / 8 < X.length by rw [hplen.out]; omega]] at hcl
        have HST := Lib.hid (hown.stored (L / 8) (.int .u8 (nth X (L / 8) + x / 2 ^ j % 2 ^ k * 2 ^ (L % 8))))
        have T := Lib.hid (put_byte2 (nth X (L / 8)) (x / 2 ^ j) k (L % 8) hplast.out.1 hplast.out.2 hr0 hr1 hk8)
        have HBLK := Lib.hid hblk
        have HU := Lib.hid (own_u8 hown rb rfl)
        clear hown hblk
        have t1 : ((L : Int) % 8).toNat = L % 8 := by omega
        have t2 : (((L / 8 + 1 : Nat) : Int) - 1).toNat = L / 8 := by omega
        have t3 : (0 : Int) ≤ ((L / 8 + 1 : Nat) : Int) - 1 := by omega
        have t4 : ((L / 8 + 1 : Nat) : Int) - 1 < ((L / 8 + 1 : Nat) : Int) := by omega
        have hnb : rb ≠ g := by omega
        generalize nth X (L / 8) = b at *
        generalize x / 2 ^ j = r at *
        have hqb : L / 8 ≤ 100000032 := by omega
        generalize L / 8 = q at *
        have t5 : IntKind.i64.wrap (q : Int) = (q : Int) := IntWalk.i64_in _ (by omega)
        have t6 : (q : Int) < (q : Int) + 1 := by omega
        have t7 : (0 : Int) ≤ (q : Int) := by omega
        have t8 : (q : Int) < ((q + 1 : Nat) : Int) := by omega
        clear t2 t3 t4
        go_upto_region 10 with (fail)
        clear hk
        go_region
        rw [T.out]
        have hk2 : Keeps [rb] ws (ws.setCell ⟨rb, q, none⟩ (.int .u8 (b + r % 2 ^ k * 2 ^ (L % 8)))) := (Keeps.refl [rb] ws).setCell (p := ⟨rb, q, none⟩) (Or.inl (by simp)) _
        have hblk2 := HBLK.out.keeps hk2 (by simpa using Ne.symm hnb)
        have HB2 := Lib.hid (HB.out.setCell (p := ⟨rb, q, none⟩) (show g ≤ rb by omega) (.int .u8 (b + r % 2 ^ k * 2 ^ (L % 8))))
        have HP2 := Lib.hid (HP.out.setU HU.out q (.int .u8 (b + r % 2 ^ k * 2 ^ (L % 8))))
        obtain ⟨ho2, -⟩ := HST.out
        rw [show (ints .u8 X).set q (.int .u8 (b + r % 2 ^ k * 2 ^ (L % 8))) = ints .u8 (X.set q (b + r % 2 ^ k * 2 ^ (L % 8))) by simp [ints, List.map_set]] at ho2
        generalize ws.setCell ⟨rb, q, none⟩ (.int .u8 (b + r % 2 ^ k * 2 ^ (L % 8))) = w2 at *
        have h1' := hblk2.cell 1
        simp only [List.getElem?_cons_zero, List.getElem?_cons_succ] at h1'
        have hf1' := hblk2.frozen 1
        have HBLK2 := Lib.hid hblk2
        have HOWN2 := Lib.hid ho2
        have v1 : IntKind.i64.wrap ((L : Int) + k) = (L : Int) + k := IntWalk.i64_in _ (by omega)
        have v2 : IntKind.i64.wrap ((m : Int) - j - k) = (m : Int) - j - k := IntWalk.i64_in _ (by omega)
        clear hk2 hblk2 ho2 h0 h1 hf0 hf1 hfr hcl HBLK HST T HB HP HU
        go_wp2_with fail
        go_roundw
        case rel =>
          refine ⟨j + k, hkm, by go_num, by rw [← hnext.out], Lib.hid ?_, Lib.hid ?_, Lib.hid (HP2.out.drew.setG 1 _)⟩
          · refine ⟨_, _, _, ?_, ?_, ownsRow_setCell_below HOWN2.out.drew (a := ⟨g, 1, none⟩) (Nat.lt_succ_self g) _, hstep.out⟩
            · rw [List.length_set, hplen.out]
            · have := (HBLK2.out.keeps (Keeps.refl [] w2).drew (by simp)).set 1 (.int .i64 ((L : Int) + k))
              rw [show (bl ++ vbits x (j + k)).length = L + k by rw [List.length_append, vbits_len, HL.out]; omega]
              exact this
          · exact (HB2.out.trans ((Keeps.refl [] w2).drew.below.mono (Nat.le_of_lt HBLK2.out.lt))).setCell (p := ⟨g, 1, none⟩) (Nat.le_refl g) _
        case measure => simp [intOf]; omega
      · have e2 : ((L : Int) % 8 == 0) = false := by simp; omega
        have hX : X = xs := by have := hpad.out; rwa [if_neg h8] at this
        subst hX
        have hn3 : n2 = L / 8 + 1 := by rw [hn2, hplen.out]
        subst hn3
        obtain ⟨rb, cap, rfl, hrb1, hrb2⟩ := hown.form (by omega)
        obtain ⟨ws, hws⟩ : ∃ ws : World, ws = wr := ⟨_, rfl⟩
        rw [← hws] at hown hblk HB HP h0 h1 hf0 hf1 hrb2 ⊢
        clear hws HW
        have hcl := hown.cellAt (L / 8) (by omega)
        have hfr := hown.frozenAt (L / 8)
        rw [show (ints .u8 X)[L / 8]? = some (.int .u8 (nth X (L / 8))) by rw [ints_getElem?]; simp [nth, List.getD, show L / 8 < X.length by rw [hplen.out]; omega]] at hcl
        have HST := Lib.hid (hown.stored (L / 8) (.int .u8 (nth X (L / 8) + x / 2 ^ j % 2 ^ k * 2 ^ (L % 8))))
        have T := Lib.hid (put_byte2 (nth X (L / 8)) (x / 2 ^ j) k (L % 8) hplast.out.1 hplast.out.2 hr0 hr1 hk8)
        have HBLK := Lib.hid hblk
        have HU := Lib.hid (own_u8 hown rb rfl)
        clear hown hblk hn2 hpad
        have t1 : ((L : Int) % 8).toNat = L % 8 := by omega
        have t2 : (((L / 8 + 1 : Nat) : Int) - 1).toNat = L / 8 := by omega
        have t3 : (0 : Int) ≤ ((L / 8 + 1 : Nat) : Int) - 1 := by omega
        have t4 : ((L / 8 + 1 : Nat) : Int) - 1 < ((L / 8 + 1 : Nat) : Int) := by omega
        have hnb : rb ≠ g := by omega
        generalize nth X (L / 8) = b at *
        generalize x / 2 ^ j = r at *
        have hqb : L / 8 ≤ 100000032 := by omega
        generalize L / 8 = q at *
        have t5 : IntKind.i64.wrap (q : Int) = (q : Int) := IntWalk.i64_in _ (by omega)
        have t6 : (q : Int) < (q : Int) + 1 := by omega
        have t7 : (0 : Int) ≤ (q : Int) := by omega
        have t8 : (q : Int) < ((q + 1 : Nat) : Int) := by omega
        clear t2 t3 t4
        go_upto_region 10 with (fail)
        clear hk
        go_region
        rw [T.out]
        have hk2 : Keeps [rb] ws (ws.setCell ⟨rb, q, none⟩ (.int .u8 (b + r % 2 ^ k * 2 ^ (L % 8)))) := (Keeps.refl [rb] ws).setCell (p := ⟨rb, q, none⟩) (Or.inl (by simp)) _
        have hblk2 := HBLK.out.keeps hk2 (by simpa using Ne.symm hnb)
        have HB2 := Lib.hid (HB.out.setCell (p := ⟨rb, q, none⟩) (show g ≤ rb by omega) (.int .u8 (b + r % 2 ^ k * 2 ^ (L % 8))))
        have HP2 := Lib.hid (HP.out.setU HU.out q (.int .u8 (b + r % 2 ^ k * 2 ^ (L % 8))))
        obtain ⟨ho2, -⟩ := HST.out
        rw [show (ints .u8 X).set q (.int .u8 (b + r % 2 ^ k * 2 ^ (L % 8))) = ints .u8 (X.set q (b + r % 2 ^ k * 2 ^ (L % 8))) by simp [ints, List.map_set]] at ho2
        generalize ws.setCell ⟨rb, q, none⟩ (.int .u8 (b + r % 2 ^ k * 2 ^ (L % 8))) = w2 at *
        have h1' := hblk2.cell 1
        simp only [List.getElem?_cons_zero, List.getElem?_cons_succ] at h1'
        have hf1' := hblk2.frozen 1
        have HBLK2 := Lib.hid hblk2
        have HOWN2 := Lib.hid ho2
        have v1 : IntKind.i64.wrap ((L : Int) + k) = (L : Int) + k := IntWalk.i64_in _ (by omega)
        have v2 : IntKind.i64.wrap ((m : Int) - j - k) = (m : Int) - j - k := IntWalk.i64_in _ (by omega)
        clear hk2 hblk2 ho2 h0 h1 hf0 hf1 hfr hcl HBLK HST T HB HP HU
        go_wp2_with fail
        go_roundw
        case rel =>
          refine ⟨j + k, hkm, by go_num, by rw [← hnext.out], Lib.hid ?_, Lib.hid ?_, Lib.hid (HP2.out.drew.setG 1 _)⟩
          · refine ⟨_, _, _, ?_, ?_, ownsRow_setCell_below HOWN2.out.drew (a := ⟨g, 1, none⟩) (Nat.lt_succ_self g) _, hstep.out⟩
            · rw [List.length_set, hplen.out]
            · have := (HBLK2.out.keeps (Keeps.refl [] w2).drew (by simp)).set 1 (.int .i64 ((L : Int) + k))
              rw [show (bl ++ vbits x (j + k)).length = L + k by rw [List.length_append, vbits_len, HL.out]; omega]
              exact this
          · exact (HB2.out.trans ((Keeps.refl [] w2).drew.below.mono (Nat.le_of_lt HBLK2.out.lt))).setCell (p := ⟨g, 1, none⟩) (Nat.le_refl g) _
        case measure => simp [intOf]; omega
    · obtain rfl : j = m := by omega
      have e1 : ((j : Int) - j == 0) = true := by simp
      go_wp2_with fail
      dsimp only [Exit.noGoto]
      go_ret
      exact ⟨rfl, HW.out, HB.out, HP.out⟩

theorem size_u8b : (Try.prog.info? 5).map (·.size) = some 1 := by kernel_rfl
set_option maxRecDepth 100000 in
set_option maxHeartbeats 400000 in
theorem bytes_calls (w : World) (g : Nat) (bl : List Int) (hw : Wtr w g bl) (hb : bl.length ≤ 100000000) :
    Calls Try.prog 28 #[.pointer (some ⟨g, 0, none⟩)] w fun e w' => ∃ (n : Nat) (xs : List Int), e = .returned (.slice (some ⟨w.heap.size, 0, none⟩) n n) ∧ RI .u8 w' (some ⟨w.heap.size, 0, none⟩) n xs ∧ WB xs bl ∧ Below w.heap.size w w' := by
  obtain ⟨xs, v, n, hn, hblk, hown, hwb⟩ := hw
  obtain ⟨A, c, rfl⟩ := own_formW hown
  obtain ⟨A', c', hv, hri, -, -⟩ := own_ri hown
  injection hv with h1 h2 h3
  subst h1
  subst h3
  have hnb : n ≤ 12500001 := by have := hwb.len; omega
  have h0 := hblk.cell 0
  simp only [List.getElem?_cons_zero] at h0
  have hlt := hblk.lt
  have LX : Hid (xs.length = n) := Lib.hid hn.symm
  have HX := Lib.hid hri
  have HWB := Lib.hid hwb
  clear hown hri hwb hn hblk
  have hmk := fun w => make_ints (P := Try.prog) w 38 5 .u8 1 Try.underlying38 info_u8 (n : Int) n rfl (by omega) (by omega)
  go_enter Try.func28, Try.ntmps28
  go_wp2_with (with_reducible refine wpList_copy_splice rfl (.tmp 12) (.tmp 16) _ _ rfl 5 Try.underlying38 size_u8b _ _ _ _ _ _ rfl rfl w.heap.size 0 (ints .u8 (List.replicate n 0)) 5 ?h1 (ints .u8 xs) ?h2 ?h3 ?h4 ?h5 w.heap.size w ?h6 (Nat.le_refl _) ?_)
  case h1 => first | exact blk_new w _ _ | exact (Array.getElem?_eq_some_iff.1 (blk_new w 5 (ints .u8 (List.replicate n 0)))).2
  case h2 => have := LX.out; simp [ints]; omega
  case h3 =>
    intro hp
    obtain ⟨a, o, ha⟩ := HX.out.hd (by have := LX.out; simpa [ints, this] using hp)
    refine ⟨_, ha, fun j v hv => ?_⟩
    have hj : j < n := by have := LX.out; have := (List.getElem?_eq_some_iff.1 hv).1; simp [ints] at this; omega
    have hc := HX.out.cell a o ha j hj
    have e : (ints .u8 xs)[j]? = some (.int .u8 (nth xs j)) := by rw [ints_getElem?]; simp [nth, List.getD, show j < xs.length from by have := LX.out; omega]
    rw [e] at hv
    rw [← Option.some.inj hv, add_plain2]
    exact (Keeps.refl [] w).alloc _ |>.cell (by simp) hc
  case h4 => have := LX.out; simp [ints]; omega
  case h5 => intro v hv; simp only [ints, List.mem_map] at hv; obtain ⟨x, _, rfl⟩ := hv; rfl
  case h6 => exact (Below.refl _ _).alloc (Nat.le_refl _) _
  intro w1 hg1 hb1
  have hB : Blk w1 w.heap.size 5 (splice (ints .u8 (List.replicate n 0)) 0 (ints .u8 xs)) := hg1.out
  have hsp : splice (ints .u8 (List.replicate n 0)) 0 (ints .u8 xs) = ints .u8 (xs ++ []) := by
    have := LX.out
    simp [splice, ints, this]
  rw [hsp] at hB
  have HR2 := Lib.hid hB.ri
  have HB1 := Lib.hid hb1
  clear hg1 hsp hB hmk hb1
  go_wp2
  go_ret
  exact ⟨n, xs, rfl, by have := HR2.out; rwa [LX.out] at this, HWB.out, HB1.out⟩
end Go.Proofs.Ytcblibefmclloaa
